/-
  THE WALK OF limewashref29.Unpack.
-/
import Derived.Test.YtfkkppagbhllgaaTgaRefA
import Derived.Test.YtfkkppagbhllgaaTgaWalkM
set_option linter.unusedVariables false
set_option linter.unusedSimpArgs false
set_option maxRecDepth 100000
namespace Go.Proofs.Ytfkkppagbhllgaa
open Go.RowKit

set_option maxHeartbeats 800000 in
theorem unref_no (s : List UInt8) (size many : Int) (w : World) (h : unOk size many = false) : Calls Try.prog 19 #[.string ⟨s.toArray⟩, .int .i64 size, .int .i64 many] w (UnpRes ([], 0, 1) w) := by
  unfold UnpRes strV
  unfold unOk at h
  rw [decide_eq_false_iff_not] at h
  by_cases h1 : size = 3 ∨ size = 4
  · by_cases h2 : many < 0
    · have t1 : decide (many < 0) = true := decide_eq_true h2
      rcases h1 with h1 | h1
      · have t3 : (size != 3) = false := by rw [h1]; rfl
        clear h h1 h2
        go_enter Try.func19, Try.ntmps19
        go_wp2_with fail
        go_ret3
        exact ⟨rfl, Below.refl _ _⟩
      · have t3 : (size != 3) = true := by rw [h1]; rfl
        have t4 : (size != 4) = false := by rw [h1]; rfl
        clear h h1 h2
        go_enter Try.func19, Try.ntmps19
        go_wp2_with fail
        go_ret3
        exact ⟨rfl, Below.refl _ _⟩
    · have t1 : decide (many < 0) = false := decide_eq_false h2
      have t2 : decide (256 < many) = true := decide_eq_true (by omega)
      rcases h1 with h1 | h1
      · have t3 : (size != 3) = false := by rw [h1]; rfl
        clear h h1 h2
        go_enter Try.func19, Try.ntmps19
        go_wp2_with fail
        go_ret3
        exact ⟨rfl, Below.refl _ _⟩
      · have t3 : (size != 3) = true := by rw [h1]; rfl
        have t4 : (size != 4) = false := by rw [h1]; rfl
        clear h h1 h2
        go_enter Try.func19, Try.ntmps19
        go_wp2_with fail
        go_ret3
        exact ⟨rfl, Below.refl _ _⟩
  · have t3 : (size != 3) = true := by rw [bne_iff_ne]; omega
    have t4 : (size != 4) = true := by rw [bne_iff_ne]; omega
    have h2 : True := trivial
    clear h h1 h2
    go_enter Try.func19, Try.ntmps19
    go_wp2_with fail
    go_ret3
    exact ⟨rfl, Below.refl _ _⟩
set_option maxHeartbeats 3200000 in
theorem unref_yes (s : List UInt8) (z n : Nat) (w : World) (hz : z = 3 ∨ z = 4) (hn : n ≤ 256) (hl : s.length ≤ 1000000) :
    Calls Try.prog 19 #[.string ⟨s.toArray⟩, .int .i64 (z : Int), .int .i64 (n : Int)] w (UnpRes (unR s z n) w) := by
  have FN : Hid (∀ W, unpackT z n s = none → Below w.heap.size w W → UnpRes (unR s z n) w (.returned (.tuple #[.string ⟨#[]⟩, .int .i64 0, .int .i64 6])) W) := Lib.hid fun W h hb => by
    unfold unR
    rw [if_pos (by unfold unOk; rw [decide_eq_true_iff]; omega), Int.toNat_natCast, Int.toNat_natCast, h]
    exact ⟨rfl, hb⟩
  have FY : Hid (∀ (W : World) (p : Nat) (acc : List UInt8), p ≤ s.length → unpackT z n s = some (acc, s.drop p) → Below w.heap.size w W → UnpRes (unR s z n) w (.returned (.tuple #[.string ⟨acc.toArray⟩, .int .i64 (p : Int), .int .i64 0])) W) := Lib.hid fun W p acc hp h hb => by
    unfold unR
    rw [if_pos (by unfold unOk; rw [decide_eq_true_iff]; omega), Int.toNat_natCast, Int.toNat_natCast, h]
    refine ⟨?_, hb⟩
    dsimp only
    rw [List.length_drop, show (s.length : Int) - ((s.length - p : Nat) : Int) = (p : Int) by omega]
    rfl
  generalize hQ : UnpRes (unR s z n) w = Qp at FN FY ⊢
  clear hQ
  have t8 : decide ((n : Int) < 0) = false := decide_eq_false (by omega)
  have t9 : decide ((256 : Int) < (n : Int)) = false := decide_eq_false (by omega)
  obtain ⟨N, hN⟩ : ∃ N, N = n * z := ⟨_, rfl⟩
  have hnz : n * z ≤ 256 * z := Nat.mul_le_mul_right _ hn
  have e1 : (n : Int) * (z : Int) = (N : Int) := by rw [hN]; simp
  have hN9 : N ≤ 1024 := by omega
  have wN : IntKind.i64.wrap (N : Int) = (N : Int) := by rw [IntKind.wrap_i64]; omega
  have z1 : 1 ≤ z := by omega
  have z4 : z ≤ 4 := by omega
  have HNN : Hid (N = n * z) := Lib.hid hN
  clear hN hnz
  rcases hz with hz | hz
  · have t3 : ((z : Int) != 3) = false := by rw [hz]; rfl
    clear hz
    go_enter Try.func19, Try.ntmps19
    go_wp2_with fail
    go_loopw [9, 10] (fun v i wr => ∃ (p k : Nat) (acc : List UInt8), p ≤ s.length ∧ i = .int .i64 (p : Int) ∧ v = .string ⟨acc.toArray⟩ ∧ acc.length = k * z ∧ acc.length ≤ N + 600 ∧ Hid (UnSt z n s k (s.drop p) acc) ∧ Hid (Below w.heap.size w wr)) (fun _ i _ => s.length - (intOf i).toNat)
    case atStart => exact ⟨0, 0, [], Nat.zero_le _, rfl, rfl, by simp, by simp, Lib.hid (UnSt.start z n s), Lib.hid (Below.refl _ _)⟩
    case round =>
      obtain ⟨p, k, acc, hp, rfl, rfl, hak, haN, hst, hbw⟩ := hrel
      by_cases hk : k < n
      · have hkz : k * z < N := by rw [HNN.out]; exact Nat.mul_lt_mul_of_pos_right hk (by omega)
        have t0 : decide ((acc.length : Int) < (N : Int)) = true := decide_eq_true (by omega)
        have t0n : decide (acc.length < N) = true := decide_eq_true (by omega)
        by_cases hps : s.length ≤ p
        · have t1 : decide ((s.length : Int) ≤ (p : Int)) = true := decide_eq_true (by omega)
          have t1n : decide (s.length ≤ p) = true := decide_eq_true (by omega)
          have hno : Hid (unpackT z n s = none) := Lib.hid (by
            have h9 := hst.out
            rw [List.drop_of_length_le hps] at h9
            exact h9.empty hk)
          clear hak hkz haN
          go_wp2_with fail
          go_ret3
          exact FN.out _ hno.out hbw.out
        · have t1 : decide ((s.length : Int) ≤ (p : Int)) = false := decide_eq_false (by omega)
          have t1n : decide (s.length ≤ p) = false := decide_eq_false (by omega)
          have hp2 : p < s.length := by omega
          obtain ⟨c, hc⟩ : ∃ c, c = s.getD p 0 := ⟨_, rfl⟩
          have hdc : s.drop p = c :: s.drop (p + 1) := by
            rw [hc, List.getD_eq_getElem?_getD, List.getElem?_eq_getElem hp2]
            exact List.drop_eq_getElem_cons hp2
          have hix := idx_str s p (p : Int) hp2 rfl
          rw [← hc] at hix
          have c8 := c.toNat_lt
          have wp1 : IntKind.i64.wrap ((p : Int) + 1) = (p : Int) + 1 := by rw [IntKind.wrap_i64]; omega
          have wc : IntKind.i64.wrap ((c.toNat : Nat) : Int) = (c.toNat : Int) := by rw [IntKind.wrap_i64]; omega
          have tmc : ((c.toNat : Nat) : Int).tmod 128 = ((c.toNat % 128 : Nat) : Int) := by rw [Int.tmod_eq_emod_of_nonneg (by omega)]; rfl
          have hst1 := hst.out
          rw [hdc] at hst1
          have hdl : (s.drop (p + 1)).length = s.length - (p + 1) := List.length_drop ..
          obtain ⟨x, hx⟩ : ∃ x, x = c.toNat := ⟨_, rfl⟩
          obtain ⟨y, hy⟩ : ∃ y, y = c.toNat % 128 := ⟨_, rfl⟩
          have hy8 : y < 128 := by omega
          rw [← hy, ← hx] at tmc
          rw [← hx] at hix wc
          have wy : IntKind.i64.wrap (y : Int) = (y : Int) := by rw [IntKind.wrap_i64]; omega
          have wy1 : IntKind.i64.wrap ((y : Int) + 1) = (y : Int) + 1 := by rw [IntKind.wrap_i64]; omega
          by_cases hc128 : 128 ≤ c.toNat
          · have t2 : decide ((128 : Int) ≤ (x : Int)) = true := decide_eq_true (by omega)
            have t2n : decide (128 ≤ x) = true := decide_eq_true (by omega)
            have wpz : IntKind.i64.wrap ((p : Int) + 1 + (z : Int)) = (p : Int) + 1 + (z : Int) := by rw [IntKind.wrap_i64]; omega
            by_cases hsh : s.length < p + 1 + z
            · have t3 : decide ((s.length : Int) < (p : Int) + 1 + (z : Int)) = true := decide_eq_true (by omega)
              have t3n : decide (s.length < p + 1 + z) = true := decide_eq_true (by omega)
              have hno : Hid (unpackT z n s = none) := Lib.hid (hst1.short hk hc128 (by omega))
              clear hak hkz haN hdc hst1 hdl hc hx hy hc128
              go_wp2_with fail
              go_ret3
              exact FN.out _ hno.out hbw.out
            · have t3 : decide ((s.length : Int) < (p : Int) + 1 + (z : Int)) = false := decide_eq_false (by omega)
              have t3n : decide (s.length < p + 1 + z) = false := decide_eq_false (by omega)
              have hnx := hst1.run hk hc128 (by omega)
              rw [List.drop_drop, ← hy] at hnx
              obtain ⟨T, hT⟩ : ∃ T, T = (s.drop (p + 1)).take z := ⟨_, rfl⟩
              have hTl : T.length = z := by rw [hT, List.length_take, hdl]; omega
              rw [← hT] at hnx
              have HNX := Lib.hid hnx
              have HS : ∀ W, (Instr.slice 9 (.string ⟨s.toArray⟩) (some (.int .i64 ((p : Int) + 1))) (some (.int .i64 ((p : Int) + 1 + (z : Int)))) none).run Try.prog W = .ok (.string ⟨T.toArray⟩) W := fun W => by
                rw [run_sl 9 s _ _ (p + 1) (p + 1 + z) (by simp) (by simp) (Nat.le_add_right _ _) (by omega) Try.underlying9 W]
                rw [show p + 1 + z - (p + 1) = z by omega, hT]
              have hyz : y * z ≤ 127 * z := Nat.mul_le_mul_right _ (by omega)
              have HBD := Lib.hid (⟨hak, hkz, haN, hyz⟩ : _ ∧ _ ∧ _ ∧ _)
              have hsh2 : p + 1 + z ≤ s.length := by omega
              clear hak hkz hdc hst1 hdl hc hx hy hc128 hnx hT hyz
              go_wp2_with fail
              obtain ⟨wo, hwo⟩ : ∃ wo : World, wo = wr := ⟨_, rfl⟩
              obtain rfl := hwo
              have HBW := hbw
              go_loopw [9, 13] (fun v i wr => ∃ j : Nat, j ≤ y + 1 ∧ i = .int .i64 (j : Int) ∧ v = .string ⟨(acc ++ (List.replicate j T).flatten).toArray⟩ ∧ Hid (Below w.heap.size w wr)) (fun _ i _ => y + 1 - (intOf i).toNat)
              case atStart => exact ⟨0, by omega, rfl, by simp, HBW⟩
              case round =>
                obtain ⟨j, hj, rfl, rfl, hbw2⟩ := hrel
                by_cases hjy : j < y + 1
                · have s0 : decide ((j : Int) < (y : Int) + 1) = true := decide_eq_true (by omega)
                  have s0n : decide (j < y + 1) = true := decide_eq_true (by omega)
                  have hjl : (acc ++ (List.replicate j T).flatten).length ≤ N + 2000 := by
                    have h5 : j * z ≤ 128 * z := Nat.mul_le_mul_right _ (by omega)
                    simp only [List.length_append, List.length_flatten, List.map_replicate, List.sum_replicate_nat, hTl]
                    omega
                  have hcat : ∀ W, (Op.stringOp .add ⟨(acc ++ (List.replicate j T).flatten).toArray⟩ ⟨T.toArray⟩).run Try.prog W = .ok (.string ⟨(acc ++ (List.replicate (j + 1) T).flatten).toArray⟩) W := fun W => by
                    rw [run_cat _ T (by omega) W, List.append_assoc]
                    rw [List.replicate_succ']
                    simp
                  have wj : IntKind.i64.wrap ((j : Int) + 1) = (j : Int) + 1 := by rw [IntKind.wrap_i64]; omega
                  generalize hA : acc ++ (List.replicate j T).flatten = A1 at *
                  generalize hA2 : acc ++ (List.replicate (j + 1) T).flatten = A2 at *
                  have HA2 := Lib.hid hA2
                  clear hA hA2
                  go_wp2_with fail
                  go_roundw
                  case rel => exact ⟨j + 1, by omega, by go_num, by rw [HA2.out], hbw2⟩
                  case measure => simp only [intOf]; omega
                · have s0 : decide ((j : Int) < (y : Int) + 1) = false := decide_eq_false (by omega)
                  have s0n : decide (j < y + 1) = false := decide_eq_false (by omega)
                  obtain rfl : j = y + 1 := by omega
                  obtain ⟨A1, hA⟩ : ∃ A1, A1 = acc ++ (List.replicate (y + 1) T).flatten := ⟨_, rfl⟩
                  have HX := HNX.out
                  rw [← hA] at HX ⊢
                  have HNX2 := Lib.hid HX
                  have hAl : A1.length = (k + (y + 1)) * z := by
                    rw [hA]
                    simp only [List.length_append, List.length_flatten, List.map_replicate, List.sum_replicate_nat, hTl]
                    rw [HBD.out.1, ← Nat.add_mul]
                  have hAm : A1.length ≤ N + 600 := by
                    have h5 : (y + 1) * z ≤ 128 * z := Nat.mul_le_mul_right _ (by omega)
                    have h6 := HBD.out.1
                    have h7 := HBD.out.2.1
                    rw [hAl, Nat.add_mul]
                    omega
                  clear hA HX
                  go_wp2_with fail
                  go_roundw
                  case rel => exact ⟨p + 1 + z, k + (y + 1), A1, hsh2, by go_num, rfl, hAl, hAm, by rw [show p + 1 + z = p + 1 + z from rfl]; exact HNX2, hbw2⟩
                  case measure => simp only [intOf]; omega
          · have t2 : decide ((128 : Int) ≤ (x : Int)) = false := decide_eq_false (by omega)
            have t2n : decide (128 ≤ x) = false := decide_eq_false (by omega)
            obtain ⟨G, hG⟩ : ∃ G, G = (y + 1) * z := ⟨_, rfl⟩
            have e5 : ((y : Int) + 1) * (z : Int) = (G : Int) := by rw [hG]; simp
            have hG9 : G ≤ 512 := by
              have h5 : (y + 1) * z ≤ 128 * z := Nat.mul_le_mul_right _ (by omega)
              omega
            have wG : IntKind.i64.wrap (G : Int) = (G : Int) := by rw [IntKind.wrap_i64]; omega
            have wpG : IntKind.i64.wrap ((p : Int) + 1 + (G : Int)) = (p : Int) + 1 + (G : Int) := by rw [IntKind.wrap_i64]; omega
            by_cases hsh : s.length < p + 1 + G
            · have t3 : decide ((s.length : Int) < (p : Int) + 1 + (G : Int)) = true := decide_eq_true (by omega)
              have t3n : decide (s.length < p + 1 + G) = true := decide_eq_true (by omega)
              have hno : Hid (unpackT z n s = none) := Lib.hid (hst1.short2 hk hc128 (by rw [← hy, ← hG]; omega))
              clear hak hkz haN hdc hst1 hdl hc hx hy hc128 hG hG9
              go_wp2_with fail
              go_ret3
              exact FN.out _ hno.out hbw.out
            · have t3 : decide ((s.length : Int) < (p : Int) + 1 + (G : Int)) = false := decide_eq_false (by omega)
              have t3n : decide (s.length < p + 1 + G) = false := decide_eq_false (by omega)
              have hnx := hst1.lit hk hc128 (by rw [← hy, ← hG]; omega)
              rw [List.drop_drop, ← hy, ← hG] at hnx
              obtain ⟨T, hT⟩ : ∃ T, T = (s.drop (p + 1)).take G := ⟨_, rfl⟩
              have hTl : T.length = G := by rw [hT, List.length_take, hdl]; omega
              rw [← hT] at hnx
              have HS : ∀ W, (Instr.slice 9 (.string ⟨s.toArray⟩) (some (.int .i64 ((p : Int) + 1))) (some (.int .i64 ((p : Int) + 1 + (G : Int)))) none).run Try.prog W = .ok (.string ⟨T.toArray⟩) W := fun W => by
                rw [run_sl 9 s _ _ (p + 1) (p + 1 + G) (by simp) (by simp) (Nat.le_add_right _ _) (by omega) Try.underlying9 W]
                rw [show p + 1 + G - (p + 1) = G by omega, hT]
              have hsh2 : p + 1 + G ≤ s.length := by omega
              obtain ⟨A1, hA⟩ : ∃ A1, A1 = acc ++ T := ⟨_, rfl⟩
              have hcat : ∀ W, (Op.stringOp .add ⟨acc.toArray⟩ ⟨T.toArray⟩).run Try.prog W = .ok (.string ⟨A1.toArray⟩) W := fun W => by
                rw [run_cat acc T (by omega) W, hA]
              have hAl : A1.length = (k + (y + 1)) * z := by
                rw [hA, List.length_append, hTl, hak, hG, ← Nat.add_mul]
              have hAm : A1.length ≤ N + 600 := by
                rw [hA, List.length_append, hTl]
                omega
              rw [← hA] at hnx
              have HNX := Lib.hid hnx
              clear hak hkz hdc hst1 hdl hc hx hy hc128 hnx hT hG hA
              go_wp2_with fail
              go_roundw
              case rel => exact ⟨p + 1 + G, k + (y + 1), A1, hsh2, by go_num, rfl, hAl, hAm, HNX, hbw⟩
              case measure => simp only [intOf]; omega
      · have hkz : N ≤ k * z := by rw [HNN.out]; exact Nat.mul_le_mul_right _ (by omega)
        have t0 : decide ((acc.length : Int) < (N : Int)) = false := decide_eq_false (by omega)
        have t0n : decide (acc.length < N) = false := decide_eq_false (by omega)
        by_cases hkn : k = n
        · have h5 : acc.length = N := by rw [hak, hkn, HNN.out]
          have t5 : decide ((N : Int) < (acc.length : Int)) = false := decide_eq_false (by omega)
          have t5n : decide (N < acc.length) = false := decide_eq_false (by omega)
          have h6 := hst.out
          rw [hkn] at h6
          have HDN := Lib.hid h6.done
          clear h6 h5 hkz hak haN hkn hk
          go_wp2_with fail
          go_ret3
          exact FY.out _ p acc hp HDN.out hbw.out
        · have h5 : N < acc.length := by
            have h7 : (n + 1) * z ≤ k * z := Nat.mul_le_mul_right _ (by omega)
            rw [Nat.succ_mul, ← HNN.out] at h7
            omega
          have t5 : decide ((N : Int) < (acc.length : Int)) = true := decide_eq_true (by omega)
          have t5n : decide (N < acc.length) = true := decide_eq_true (by omega)
          have hno := Lib.hid (hst.out.over (by omega))
          clear h5 hkz hak haN hkn hk
          go_wp2_with fail
          go_ret3
          exact FN.out _ hno.out hbw.out
  · have t3 : ((z : Int) != 3) = true := by rw [hz]; rfl
    have t4 : ((z : Int) != 4) = false := by rw [hz]; rfl
    clear hz
    go_enter Try.func19, Try.ntmps19
    go_wp2_with fail
    go_loopw [9, 10] (fun v i wr => ∃ (p k : Nat) (acc : List UInt8), p ≤ s.length ∧ i = .int .i64 (p : Int) ∧ v = .string ⟨acc.toArray⟩ ∧ acc.length = k * z ∧ acc.length ≤ N + 600 ∧ Hid (UnSt z n s k (s.drop p) acc) ∧ Hid (Below w.heap.size w wr)) (fun _ i _ => s.length - (intOf i).toNat)
    case atStart => exact ⟨0, 0, [], Nat.zero_le _, rfl, rfl, by simp, by simp, Lib.hid (UnSt.start z n s), Lib.hid (Below.refl _ _)⟩
    case round =>
      obtain ⟨p, k, acc, hp, rfl, rfl, hak, haN, hst, hbw⟩ := hrel
      by_cases hk : k < n
      · have hkz : k * z < N := by rw [HNN.out]; exact Nat.mul_lt_mul_of_pos_right hk (by omega)
        have t0 : decide ((acc.length : Int) < (N : Int)) = true := decide_eq_true (by omega)
        have t0n : decide (acc.length < N) = true := decide_eq_true (by omega)
        by_cases hps : s.length ≤ p
        · have t1 : decide ((s.length : Int) ≤ (p : Int)) = true := decide_eq_true (by omega)
          have t1n : decide (s.length ≤ p) = true := decide_eq_true (by omega)
          have hno : Hid (unpackT z n s = none) := Lib.hid (by
            have h9 := hst.out
            rw [List.drop_of_length_le hps] at h9
            exact h9.empty hk)
          clear hak hkz haN
          go_wp2_with fail
          go_ret3
          exact FN.out _ hno.out hbw.out
        · have t1 : decide ((s.length : Int) ≤ (p : Int)) = false := decide_eq_false (by omega)
          have t1n : decide (s.length ≤ p) = false := decide_eq_false (by omega)
          have hp2 : p < s.length := by omega
          obtain ⟨c, hc⟩ : ∃ c, c = s.getD p 0 := ⟨_, rfl⟩
          have hdc : s.drop p = c :: s.drop (p + 1) := by
            rw [hc, List.getD_eq_getElem?_getD, List.getElem?_eq_getElem hp2]
            exact List.drop_eq_getElem_cons hp2
          have hix := idx_str s p (p : Int) hp2 rfl
          rw [← hc] at hix
          have c8 := c.toNat_lt
          have wp1 : IntKind.i64.wrap ((p : Int) + 1) = (p : Int) + 1 := by rw [IntKind.wrap_i64]; omega
          have wc : IntKind.i64.wrap ((c.toNat : Nat) : Int) = (c.toNat : Int) := by rw [IntKind.wrap_i64]; omega
          have tmc : ((c.toNat : Nat) : Int).tmod 128 = ((c.toNat % 128 : Nat) : Int) := by rw [Int.tmod_eq_emod_of_nonneg (by omega)]; rfl
          have hst1 := hst.out
          rw [hdc] at hst1
          have hdl : (s.drop (p + 1)).length = s.length - (p + 1) := List.length_drop ..
          obtain ⟨x, hx⟩ : ∃ x, x = c.toNat := ⟨_, rfl⟩
          obtain ⟨y, hy⟩ : ∃ y, y = c.toNat % 128 := ⟨_, rfl⟩
          have hy8 : y < 128 := by omega
          rw [← hy, ← hx] at tmc
          rw [← hx] at hix wc
          have wy : IntKind.i64.wrap (y : Int) = (y : Int) := by rw [IntKind.wrap_i64]; omega
          have wy1 : IntKind.i64.wrap ((y : Int) + 1) = (y : Int) + 1 := by rw [IntKind.wrap_i64]; omega
          by_cases hc128 : 128 ≤ c.toNat
          · have t2 : decide ((128 : Int) ≤ (x : Int)) = true := decide_eq_true (by omega)
            have t2n : decide (128 ≤ x) = true := decide_eq_true (by omega)
            have wpz : IntKind.i64.wrap ((p : Int) + 1 + (z : Int)) = (p : Int) + 1 + (z : Int) := by rw [IntKind.wrap_i64]; omega
            by_cases hsh : s.length < p + 1 + z
            · have t3 : decide ((s.length : Int) < (p : Int) + 1 + (z : Int)) = true := decide_eq_true (by omega)
              have t3n : decide (s.length < p + 1 + z) = true := decide_eq_true (by omega)
              have hno : Hid (unpackT z n s = none) := Lib.hid (hst1.short hk hc128 (by omega))
              clear hak hkz haN hdc hst1 hdl hc hx hy hc128
              go_wp2_with fail
              go_ret3
              exact FN.out _ hno.out hbw.out
            · have t3 : decide ((s.length : Int) < (p : Int) + 1 + (z : Int)) = false := decide_eq_false (by omega)
              have t3n : decide (s.length < p + 1 + z) = false := decide_eq_false (by omega)
              have hnx := hst1.run hk hc128 (by omega)
              rw [List.drop_drop, ← hy] at hnx
              obtain ⟨T, hT⟩ : ∃ T, T = (s.drop (p + 1)).take z := ⟨_, rfl⟩
              have hTl : T.length = z := by rw [hT, List.length_take, hdl]; omega
              rw [← hT] at hnx
              have HNX := Lib.hid hnx
              have HS : ∀ W, (Instr.slice 9 (.string ⟨s.toArray⟩) (some (.int .i64 ((p : Int) + 1))) (some (.int .i64 ((p : Int) + 1 + (z : Int)))) none).run Try.prog W = .ok (.string ⟨T.toArray⟩) W := fun W => by
                rw [run_sl 9 s _ _ (p + 1) (p + 1 + z) (by simp) (by simp) (Nat.le_add_right _ _) (by omega) Try.underlying9 W]
                rw [show p + 1 + z - (p + 1) = z by omega, hT]
              have hyz : y * z ≤ 127 * z := Nat.mul_le_mul_right _ (by omega)
              have HBD := Lib.hid (⟨hak, hkz, haN, hyz⟩ : _ ∧ _ ∧ _ ∧ _)
              have hsh2 : p + 1 + z ≤ s.length := by omega
              clear hak hkz hdc hst1 hdl hc hx hy hc128 hnx hT hyz
              go_wp2_with fail
              obtain ⟨wo, hwo⟩ : ∃ wo : World, wo = wr := ⟨_, rfl⟩
              obtain rfl := hwo
              have HBW := hbw
              go_loopw [9, 13] (fun v i wr => ∃ j : Nat, j ≤ y + 1 ∧ i = .int .i64 (j : Int) ∧ v = .string ⟨(acc ++ (List.replicate j T).flatten).toArray⟩ ∧ Hid (Below w.heap.size w wr)) (fun _ i _ => y + 1 - (intOf i).toNat)
              case atStart => exact ⟨0, by omega, rfl, by simp, HBW⟩
              case round =>
                obtain ⟨j, hj, rfl, rfl, hbw2⟩ := hrel
                by_cases hjy : j < y + 1
                · have s0 : decide ((j : Int) < (y : Int) + 1) = true := decide_eq_true (by omega)
                  have s0n : decide (j < y + 1) = true := decide_eq_true (by omega)
                  have hjl : (acc ++ (List.replicate j T).flatten).length ≤ N + 2000 := by
                    have h5 : j * z ≤ 128 * z := Nat.mul_le_mul_right _ (by omega)
                    simp only [List.length_append, List.length_flatten, List.map_replicate, List.sum_replicate_nat, hTl]
                    omega
                  have hcat : ∀ W, (Op.stringOp .add ⟨(acc ++ (List.replicate j T).flatten).toArray⟩ ⟨T.toArray⟩).run Try.prog W = .ok (.string ⟨(acc ++ (List.replicate (j + 1) T).flatten).toArray⟩) W := fun W => by
                    rw [run_cat _ T (by omega) W, List.append_assoc]
                    rw [List.replicate_succ']
                    simp
                  have wj : IntKind.i64.wrap ((j : Int) + 1) = (j : Int) + 1 := by rw [IntKind.wrap_i64]; omega
                  generalize hA : acc ++ (List.replicate j T).flatten = A1 at *
                  generalize hA2 : acc ++ (List.replicate (j + 1) T).flatten = A2 at *
                  have HA2 := Lib.hid hA2
                  clear hA hA2
                  go_wp2_with fail
                  go_roundw
                  case rel => exact ⟨j + 1, by omega, by go_num, by rw [HA2.out], hbw2⟩
                  case measure => simp only [intOf]; omega
                · have s0 : decide ((j : Int) < (y : Int) + 1) = false := decide_eq_false (by omega)
                  have s0n : decide (j < y + 1) = false := decide_eq_false (by omega)
                  obtain rfl : j = y + 1 := by omega
                  obtain ⟨A1, hA⟩ : ∃ A1, A1 = acc ++ (List.replicate (y + 1) T).flatten := ⟨_, rfl⟩
                  have HX := HNX.out
                  rw [← hA] at HX ⊢
                  have HNX2 := Lib.hid HX
                  have hAl : A1.length = (k + (y + 1)) * z := by
                    rw [hA]
                    simp only [List.length_append, List.length_flatten, List.map_replicate, List.sum_replicate_nat, hTl]
                    rw [HBD.out.1, ← Nat.add_mul]
                  have hAm : A1.length ≤ N + 600 := by
                    have h5 : (y + 1) * z ≤ 128 * z := Nat.mul_le_mul_right _ (by omega)
                    have h6 := HBD.out.1
                    have h7 := HBD.out.2.1
                    rw [hAl, Nat.add_mul]
                    omega
                  clear hA HX
                  go_wp2_with fail
                  go_roundw
                  case rel => exact ⟨p + 1 + z, k + (y + 1), A1, hsh2, by go_num, rfl, hAl, hAm, by rw [show p + 1 + z = p + 1 + z from rfl]; exact HNX2, hbw2⟩
                  case measure => simp only [intOf]; omega
          · have t2 : decide ((128 : Int) ≤ (x : Int)) = false := decide_eq_false (by omega)
            have t2n : decide (128 ≤ x) = false := decide_eq_false (by omega)
            obtain ⟨G, hG⟩ : ∃ G, G = (y + 1) * z := ⟨_, rfl⟩
            have e5 : ((y : Int) + 1) * (z : Int) = (G : Int) := by rw [hG]; simp
            have hG9 : G ≤ 512 := by
              have h5 : (y + 1) * z ≤ 128 * z := Nat.mul_le_mul_right _ (by omega)
              omega
            have wG : IntKind.i64.wrap (G : Int) = (G : Int) := by rw [IntKind.wrap_i64]; omega
            have wpG : IntKind.i64.wrap ((p : Int) + 1 + (G : Int)) = (p : Int) + 1 + (G : Int) := by rw [IntKind.wrap_i64]; omega
            by_cases hsh : s.length < p + 1 + G
            · have t3 : decide ((s.length : Int) < (p : Int) + 1 + (G : Int)) = true := decide_eq_true (by omega)
              have t3n : decide (s.length < p + 1 + G) = true := decide_eq_true (by omega)
              have hno : Hid (unpackT z n s = none) := Lib.hid (hst1.short2 hk hc128 (by rw [← hy, ← hG]; omega))
              clear hak hkz haN hdc hst1 hdl hc hx hy hc128 hG hG9
              go_wp2_with fail
              go_ret3
              exact FN.out _ hno.out hbw.out
            · have t3 : decide ((s.length : Int) < (p : Int) + 1 + (G : Int)) = false := decide_eq_false (by omega)
              have t3n : decide (s.length < p + 1 + G) = false := decide_eq_false (by omega)
              have hnx := hst1.lit hk hc128 (by rw [← hy, ← hG]; omega)
              rw [List.drop_drop, ← hy, ← hG] at hnx
              obtain ⟨T, hT⟩ : ∃ T, T = (s.drop (p + 1)).take G := ⟨_, rfl⟩
              have hTl : T.length = G := by rw [hT, List.length_take, hdl]; omega
              rw [← hT] at hnx
              have HS : ∀ W, (Instr.slice 9 (.string ⟨s.toArray⟩) (some (.int .i64 ((p : Int) + 1))) (some (.int .i64 ((p : Int) + 1 + (G : Int)))) none).run Try.prog W = .ok (.string ⟨T.toArray⟩) W := fun W => by
                rw [run_sl 9 s _ _ (p + 1) (p + 1 + G) (by simp) (by simp) (Nat.le_add_right _ _) (by omega) Try.underlying9 W]
                rw [show p + 1 + G - (p + 1) = G by omega, hT]
              have hsh2 : p + 1 + G ≤ s.length := by omega
              obtain ⟨A1, hA⟩ : ∃ A1, A1 = acc ++ T := ⟨_, rfl⟩
              have hcat : ∀ W, (Op.stringOp .add ⟨acc.toArray⟩ ⟨T.toArray⟩).run Try.prog W = .ok (.string ⟨A1.toArray⟩) W := fun W => by
                rw [run_cat acc T (by omega) W, hA]
              have hAl : A1.length = (k + (y + 1)) * z := by
                rw [hA, List.length_append, hTl, hak, hG, ← Nat.add_mul]
              have hAm : A1.length ≤ N + 600 := by
                rw [hA, List.length_append, hTl]
                omega
              rw [← hA] at hnx
              have HNX := Lib.hid hnx
              clear hak hkz hdc hst1 hdl hc hx hy hc128 hnx hT hG hA
              go_wp2_with fail
              go_roundw
              case rel => exact ⟨p + 1 + G, k + (y + 1), A1, hsh2, by go_num, rfl, hAl, hAm, HNX, hbw⟩
              case measure => simp only [intOf]; omega
      · have hkz : N ≤ k * z := by rw [HNN.out]; exact Nat.mul_le_mul_right _ (by omega)
        have t0 : decide ((acc.length : Int) < (N : Int)) = false := decide_eq_false (by omega)
        have t0n : decide (acc.length < N) = false := decide_eq_false (by omega)
        by_cases hkn : k = n
        · have h5 : acc.length = N := by rw [hak, hkn, HNN.out]
          have t5 : decide ((N : Int) < (acc.length : Int)) = false := decide_eq_false (by omega)
          have t5n : decide (N < acc.length) = false := decide_eq_false (by omega)
          have h6 := hst.out
          rw [hkn] at h6
          have HDN := Lib.hid h6.done
          clear h6 h5 hkz hak haN hkn hk
          go_wp2_with fail
          go_ret3
          exact FY.out _ p acc hp HDN.out hbw.out
        · have h5 : N < acc.length := by
            have h7 : (n + 1) * z ≤ k * z := Nat.mul_le_mul_right _ (by omega)
            rw [Nat.succ_mul, ← HNN.out] at h7
            omega
          have t5 : decide ((N : Int) < (acc.length : Int)) = true := decide_eq_true (by omega)
          have t5n : decide (N < acc.length) = true := decide_eq_true (by omega)
          have hno := Lib.hid (hst.out.over (by omega))
          clear h5 hkz hak haN hkn hk
          go_wp2_with fail
          go_ret3
          exact FN.out _ hno.out hbw.out
theorem unref_any (s : List UInt8) (size many : Int) (w : World) (hl : s.length ≤ 1000000) : Calls Try.prog 19 #[.string ⟨s.toArray⟩, .int .i64 size, .int .i64 many] w (UnpRes (unR s size many) w) := by
  cases h : unOk size many with
  | false =>
    have e : unR s size many = ([], 0, 1) := by unfold unR; rw [h]; rfl
    rw [e]
    exact unref_no s size many w h
  | true =>
    unfold unOk at h
    rw [decide_eq_true_iff] at h
    obtain ⟨z, rfl⟩ : ∃ z : Nat, size = z := ⟨size.toNat, by omega⟩
    obtain ⟨n, rfl⟩ : ∃ n : Nat, many = n := ⟨many.toNat, by omega⟩
    exact unref_yes s z n w (by omega) (by omega) hl
end Go.Proofs.Ytfkkppagbhllgaa
