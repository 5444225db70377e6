/-
  THE WALK OF THE LAW DilateFill.
-/
import Derived.Test.YtmkmmkpigpbkiaaDilLawA
set_option linter.unusedVariables false
set_option linter.unusedSimpArgs false
namespace Go.Proofs.Ytmkmmkpigpbkiaa
open Go.RowKit

theorem fillS_get {v : List Int} {back : Int} {k : Nat} {x : Int} (h : v[k]? = some x) : (fillS v back)[k]? = some (if x = -1 then back else x) := by
  simp [fillS, h]
theorem fillS_i64 {v : List Int} {back : Int} (hb : backOk back = true) (h : ∀ x ∈ v, grey x = true) : ∀ x ∈ fillS v back, 0 ≤ x ∧ x ≤ 255 := by
  intro x hx
  simp only [fillS, List.mem_map] at hx
  obtain ⟨y, hy, rfl⟩ := hx
  have h1 := grey_iff.1 (h y hy)
  have h2 := backOk_iff.1 hb
  split <;> omega
theorem fillS_self {p : List Int} (h : ∀ x ∈ p, 0 ≤ x ∧ x ≤ 255) (other : Int) : fillS p other = p := by
  unfold fillS
  conv => rhs; rw [← List.map_id p]
  refine List.map_congr_left fun x hx => ?_
  have := h x hx
  rw [if_neg (by omega)]; rfl
theorem fillF_cases (v : List Int) (back : Int) : (fillF v back = ([], 1) ∧ (backOk back && v.all grey) = false) ∨ (fillF v back = (fillS v back, 0) ∧ backOk back = true ∧ ∀ x ∈ v, grey x = true) := by
  cases h : (backOk back && v.all grey) with
  | false => exact .inl ⟨fillF_no h, rfl⟩
  | true =>
    refine .inr ⟨fillF_yes h, ?_⟩
    simp only [Bool.and_eq_true, List.all_eq_true] at h
    exact h

set_option maxRecDepth 100000 in
set_option maxHeartbeats 3200000 in
theorem fill_law (A : Option Addr) (n c : Nat) (v : List Int) (back other : Int) (w : World) (hI : Ints w w.heap.size A n v) (bb : i64b back) (bo : i64b other) :
    Calls Try.prog 7 #[.slice A n c, .int .i64 back, .int .i64 other] w fun e w' => e = .returned (.bool true) ∧ Below w.heap.size w w' := by
  have hnl := hI.len
  by_cases hn : 80 < n
  · have d1 : decide ((80 : Int) < (n : Int)) = true := decide_eq_true (by omega)
    go_enter Try.func7, Try.ntmps7
    go_wp2_with fail
    go_ret
    exact ⟨rfl, Below.refl _ _⟩
  have d1 : decide ((80 : Int) < (n : Int)) = false := decide_eq_false (by omega)
  have hl := Lib.hid hI.length
  rcases fillF_cases v back with ⟨hf, _⟩ | ⟨hf, hbo, hgr⟩
  · have HF := Lib.hid (fill_as A n c v back w hI (by omega) hf)
    clear hf
    go_enter Try.func7, Try.ntmps7
    go_wp2_with fail
    refine HF.out.mono ?_
    intro e w1 h1
    obtain ⟨A1, c1, rfl, _, hb1⟩ := h1
    simp only [List.length_nil]
    go_wp2_with fail
    refine (rows_any _).mono ?_
    rintro e w2 ⟨rfl, hb2⟩
    go_wp2_with fail
    go_ret
    exact ⟨rfl, hb1.trans (hb2.mono hb1.size)⟩
  · have HF := Lib.hid (fill_as A n c v back w hI (by omega) hf)
    have hrng := fillS_i64 hbo hgr
    have hb2 := backOk_iff.1 hbo
    obtain ⟨hb21, hb22⟩ := hb2
    have HGR := Lib.hid hgr
    have HRNG := Lib.hid hrng
    have hpl : (fillS v back).length = n := by simp [fillS, hl.out]
    rw [hpl] at HF
    clear hf hbo hgr hrng
    have HPL := Lib.hid hpl; clear hpl
    have hnn : ((n : Int) != (n : Int)) = false := by simp
    have hnn' : (n != n) = false := by simp
    go_enter Try.func7, Try.ntmps7
    go_wp2_with fail
    refine HF.out.mono ?_
    clear HF
    intro e w1 h1
    obtain ⟨A1, c1, rfl, hown1, hb1⟩ := h1
    have hIp := Ints.of_own hown1 (fun x hx => by have := HRNG.out x hx; omega) (by omega)
    have hIv := (hI.below hb1 (Nat.le_refl _)).more hb1.size
    clear hown1
    go_wp2_with fail
    go_loopw [9] (fun i wr => ∃ k : Nat, k ≤ n ∧ i = .int .i64 k ∧ ∃ q, wr = w1.drewN q) (fun i _ => n - (intOf i).toNat)
    case atStart => exact ⟨0, by omega, rfl, 0, rfl⟩
    case round =>
      obtain ⟨k, hk, rfl, q, rfl⟩ := hrel
      by_cases hlt : k < n
      · obtain ⟨ad, x, rfl, hb, hx, hm, hc, hlo, hhi⟩ := hIv.get hlt
        obtain ⟨ad', y, rfl, hb', hy, hm', hc', hlo', hhi'⟩ := hIp.get hlt
        have hxy : y = if x = -1 then back else x := by
          rw [fillS_get hx] at hy; exact (Option.some.inj hy).symm
        have gx := grey_iff.1 (HGR.out x hm)
        obtain ⟨gx1, gx2⟩ := gx
        have gy := HRNG.out y hm'
        obtain ⟨gy1, gy2⟩ := gy
        have k0 : (0 : Int) ≤ (k : Int) := by omega
        have k1 : (k : Int) < (n : Int) := by omega
        have t0 : decide ((k : Int) < (n : Int)) = true := decide_eq_true k1
        have t1 : decide (y < 0) = false := decide_eq_false (by omega)
        have t2 : decide (255 < y) = false := decide_eq_false (by omega)
        clear hx hy hm hm'
        by_cases h1 : x = -1
        · rw [if_pos h1] at hxy
          subst hxy
          have t3 : decide (0 ≤ x) = false := decide_eq_false (by omega)
          have t4 : decide (x < 0) = true := decide_eq_true (by omega)
          have t5 : (y != y) = false := by simp
          subst h1
          go_wp2_with fail
          try simp only [List.append]
          refine wp_region_quiet_lit (by kernel_rfl) (lexB_of_fast (by kernel_rfl)) ?_
          repeat (go_big_quiet_step (fail))
          refine wpQuiet_nil ?_
          intro _ hw'
          obtain ⟨nq, hw''⟩ := hw'
          subst hw''
          go_wp2_with fail
          go_roundw
          case rel => exact ⟨k + 1, by omega, by go_num, _, rfl⟩
          case measure => simp only [intOf]; omega
        · rw [if_neg h1] at hxy
          subst hxy
          have t3 : decide (0 ≤ y) = true := decide_eq_true (by omega)
          have t5 : (y != y) = false := by simp
          have H1 := Lib.hid h1; clear h1
          go_wp2_with fail
          try simp only [List.append]
          refine wp_region_quiet_lit (by kernel_rfl) (lexB_of_fast (by kernel_rfl)) ?_
          repeat (go_big_quiet_step (fail))
          refine wpQuiet_nil ?_
          intro _ hw'
          obtain ⟨nq, hw''⟩ := hw'
          subst hw''
          go_wp2_with fail
          go_roundw
          case rel => exact ⟨k + 1, by omega, by go_num, _, rfl⟩
          case measure => simp only [intOf]; omega
      · have t0 : decide ((k : Int) < (n : Int)) = false := decide_eq_false (by omega)
        have hbq : Below w.heap.size w (w1.drewN q) := below_drewN hb1 q
        have hIq : Ints (w1.drewN q) (w1.drewN q).heap.size A1 n (fillS v back) := ⟨hIp.rd.drewN q, hIp.i64, hIp.len⟩
        generalize w1.drewN q = W at hbq hIq ⊢
        rcases fillF_cases (fillS v back) other with ⟨hf2, hno⟩ | ⟨hf2, hbo2, _⟩
        · have HF2 := Lib.hid (fill_as A1 n c1 (fillS v back) other W hIq (by omega) hf2)
          have hob : other < 0 ∨ 255 < other := by
            rw [List.all_eq_true.2 (fun x hx => by have := HRNG.out x hx; exact grey_iff.2 ⟨by omega, by omega⟩), Bool.and_true] at hno
            rcases Int.lt_or_le other 0 with h | h
            · exact .inl h
            · rcases Int.lt_or_le 255 other with h' | h'
              · exact .inr h'
              · rw [backOk_iff.2 ⟨h, h'⟩] at hno; cases hno
          clear hf2 hno
          go_wp2_with fail
          refine HF2.out.mono ?_
          clear HF2
          intro e w3 h3
          obtain ⟨A3, c3, rfl, _, hb3⟩ := h3
          simp only [List.length_nil]
          rcases Int.lt_or_le other 0 with ho | ho
          · have t1 : decide (other < 0) = true := decide_eq_true ho
            go_wp2_with fail
            refine (rows_any _).mono ?_
            rintro e w4 ⟨rfl, hb4⟩
            go_wp2_with fail
            go_ret
            exact ⟨rfl, hbq.trans ((hb3.trans (hb4.mono hb3.size)).mono hbq.size)⟩
          · have t1 : decide (other < 0) = false := decide_eq_false (by omega)
            have t2 : decide (255 < other) = true := decide_eq_true (by omega)
            go_wp2_with fail
            refine (rows_any _).mono ?_
            rintro e w4 ⟨rfl, hb4⟩
            go_wp2_with fail
            go_ret
            exact ⟨rfl, hbq.trans ((hb3.trans (hb4.mono hb3.size)).mono hbq.size)⟩
        · rw [fillS_self HRNG.out] at hf2
          have HF2 := Lib.hid (fill_as A1 n c1 (fillS v back) other W hIq (by omega) hf2)
          rw [HPL.out] at HF2
          clear hf2 hbo2
          go_wp2_with fail
          refine HF2.out.mono ?_
          clear HF2
          intro e w3 h3
          obtain ⟨A3, c3, rfl, hown3, hb3⟩ := h3
          have hIq3 := Ints.of_own hown3 hIq.i64 (by omega)
          have hIp3 := hIq.below hb3 (Nat.le_refl _)
          clear hown3
          go_wp2_with fail
          refine (rows_any _).mono ?_
          rintro e w4 ⟨rfl, hb4⟩
          have HS := Lib.hid (same_b _ _ A1 A3 n c1 n c3 _ _ w4 (hIp3.below hb4 hb3.size) (hIq3.below hb4 (Nat.le_refl _)))
          rw [show sameL (fillS v back) (fillS v back) = true from decide_eq_true rfl] at HS
          go_wp2_with fail
          refine HS.out.mono ?_
          rintro e w5 ⟨rfl, hb5⟩
          go_wp2_with fail
          go_ret
          exact ⟨rfl, hbq.trans (((hb3.trans (hb4.mono hb3.size)).trans (hb5.mono (Nat.le_trans hb3.size hb4.size))).mono hbq.size)⟩
end Go.Proofs.Ytmkmmkpigpbkiaa
