/-
  THE WALKS OF limewashref27.Values AND limewashref28.Fill.
-/
import Derived.Test.YtmkmmkpigpbkiaaDilWalkB
import Derived.Test.YtmkmmkpigpbkiaaDilWalkC
set_option linter.unusedVariables false
set_option linter.unusedSimpArgs false
namespace Go.Proofs.Ytmkmmkpigpbkiaa
open Go.RowKit

theorem values_any (B : Nat) (A : Option Addr) (n c : Nat) (v : List Int) (ww : Int) (w : World) (hI : Ints w B A n v) (hn : n ≤ 1000) (bw : i64b ww) :
    Calls Try.prog 21 #[.int .i64 ww, .slice A n c] w fun e w' => e = .returned (.bool (levelOk ww v)) ∧ w' = w := by
  have hl := Lib.hid hI.length
  obtain ⟨bw1, bw2⟩ := bw
  by_cases h1 : ww < 1
  · have d1 : decide (ww < 1) = true := decide_eq_true h1
    have HL : Hid (levelOk ww v = false) := Lib.hid (by unfold levelOk; rw [decide_eq_false (show ¬ 1 ≤ ww by omega)]; rfl)
    go_enter Try.func21, Try.ntmps21
    go_wp2_with fail
    go_ret
    exact ⟨ret_bool HL.out.symm, rfl⟩
  have d1 : decide (ww < 1) = false := decide_eq_false h1
  by_cases h2 : 256 < ww
  · have d2 : decide (256 < ww) = true := decide_eq_true h2
    have HL : Hid (levelOk ww v = false) := Lib.hid (by unfold levelOk; rw [decide_eq_false (show ¬ ww ≤ 256 by omega)]; simp)
    go_enter Try.func21, Try.ntmps21
    go_wp2_with fail
    go_ret
    exact ⟨ret_bool HL.out.symm, rfl⟩
  have d2 : decide (256 < ww) = false := decide_eq_false h2
  obtain ⟨q, rfl⟩ : ∃ q : Nat, ww = q := ⟨ww.toNat, by omega⟩
  have q1 : (1 : Int) ≤ (q : Int) := by omega
  cases h3 : ((n : Int) % (q : Int) != 0)
  case true =>
    have HL : Hid (levelOk q v = false) := Lib.hid (by
      unfold levelOk
      rw [hl.out, decide_eq_false (show ¬ (n : Int) % q = 0 by simpa using h3)]; simp)
    go_enter Try.func21, Try.ntmps21
    go_wp2_with fail
    go_ret
    exact ⟨ret_bool HL.out.symm, rfl⟩
  have h3' : (n : Int) % q = 0 := by simpa using h3
  have hdm := Int.mul_ediv_add_emod (n : Int) q
  rw [h3', Int.add_zero] at hdm
  have n0 : 0 ≤ (n : Int) / q := Int.ediv_nonneg (by omega) (by omega)
  have n1 : (n : Int) / q ≤ 1000 := Int.le_trans (Int.ediv_le_self _ (by omega)) (by omega)
  have h4e : (256 < (n : Int) / q) ↔ ¬ ((n : Int) ≤ q * 256) := by
    constructor
    · intro h hh
      have : (q : Int) * 257 ≤ q * ((n : Int) / q) := Int.mul_le_mul_of_nonneg_left (by omega) (by omega)
      omega
    · intro h
      refine Int.not_le.1 fun hh => h ?_
      have : (q : Int) * ((n : Int) / q) ≤ q * 256 := Int.mul_le_mul_of_nonneg_left hh (by omega)
      omega
  have HDM := Lib.hid hdm; clear hdm
  have H3 := Lib.hid h3'; clear h3'
  by_cases h4 : 256 < (n : Int) / q
  · have d4 : decide (256 < (n : Int) / q) = true := decide_eq_true h4
    have HL : Hid (levelOk q v = false) := Lib.hid (by
      unfold levelOk
      rw [hl.out, decide_eq_false (h4e.1 h4)]; simp)
    clear h4e
    go_enter Try.func21, Try.ntmps21
    go_wp2_with fail
    go_ret
    exact ⟨ret_bool HL.out.symm, rfl⟩
  have d4 : decide (256 < (n : Int) / q) = false := decide_eq_false h4
  have HL : Hid (levelOk q v = v.all grey) := Lib.hid (by
    have h5 : (n : Int) ≤ q * 256 := by
      refine Int.not_lt.1 fun hh => h4 (h4e.2 (by omega))
    unfold levelOk
    rw [hl.out, decide_eq_true h5, decide_eq_true H3.out, decide_eq_true (show (1 : Int) ≤ q by omega), decide_eq_true (show (q : Int) ≤ 256 by omega)]; rfl)
  clear h4e
  go_enter Try.func21, Try.ntmps21
  go_wp2_with fail
  go_loop [5] (fun i => ∃ k : Nat, k ≤ n ∧ i = .int .i64 k ∧ Hid (∀ x ∈ v.take k, grey x = true)) (fun i => n - (intOf i).toNat)
  case atStart => exact ⟨0, by omega, rfl, Lib.hid (by simp)⟩
  case round =>
    obtain ⟨k, hk, rfl, hgr⟩ := hrel
    by_cases hlt : k < n
    · obtain ⟨ad, x, rfl, hb, hx, hm, hc, hlo, hhi⟩ := hI.get hlt
      have HX := Lib.hid hx; clear hx
      have k0 : (0 : Int) ≤ (k : Int) := by omega
      have k1 : (k : Int) < (n : Int) := by omega
      have t0 : decide ((k : Int) < (n : Int)) = true := decide_eq_true k1
      have HNO : Hid (grey x = false → levelOk q v = false) := Lib.hid fun h => by
        rw [HL.out, List.all_eq_false]; exact ⟨x, hm, by rw [h]; simp⟩
      clear hm
      by_cases g1 : x < -1
      · have e1 : decide (x < -1) = true := decide_eq_true g1
        go_wp2_with fail
        go_ret
        exact ⟨ret_bool (HNO.out (by unfold grey; rw [decide_eq_false (show ¬ -1 ≤ x by omega)]; rfl)).symm, rfl⟩
      have e1 : decide (x < -1) = false := decide_eq_false g1
      by_cases g2 : 255 < x
      · have e2 : decide (255 < x) = true := decide_eq_true g2
        go_wp2_with fail
        go_ret
        exact ⟨ret_bool (HNO.out (by unfold grey; rw [decide_eq_false (show ¬ x ≤ 255 by omega)]; simp)).symm, rfl⟩
      have e2 : decide (255 < x) = false := decide_eq_false g2
      go_wp2_with fail
      go_round
      case rel => exact ⟨k + 1, by omega, by go_num, Lib.hid fun y hy => by
          rw [take_snoc' _ _ _ HX.out] at hy
          rcases List.mem_append.1 hy with hy | hy
          · exact hgr.out y hy
          · simp only [List.mem_singleton] at hy; subst hy; exact grey_iff.2 ⟨by omega, by omega⟩⟩
      case measure => simp only [intOf]; omega
    · have t0 : decide ((k : Int) < (n : Int)) = false := decide_eq_false (by omega)
      have HT : Hid (levelOk q v = true) := Lib.hid (by
        rw [HL.out, List.all_eq_true]
        intro x hx
        exact hgr.out x (by rw [List.take_of_length_le (by rw [hl.out]; omega)]; exact hx))
      go_wp2_with fail
      go_ret
      exact ⟨ret_bool HT.out.symm, rfl⟩

theorem rfill_no (A : Option Addr) (n c : Nat) (v : List Int) (back : Int) (w : World) (h : backOk back = false) :
    Calls Try.prog 14 #[.slice A n c, .int .i64 back] w (FillRes v back w) := by
  have hno : (backOk back && v.all grey) = false := by rw [h]; rfl
  by_cases h1 : back < 0
  · have d1 : decide (back < 0) = true := decide_eq_true h1
    go_enter Try.func14, Try.ntmps14
    go_wp2_with fail
    go_ret2
    exact FillRes.no hno rfl (Below.refl _ _)
  · have d1 : decide (back < 0) = false := decide_eq_false h1
    have d2 : decide (255 < back) = true := decide_eq_true (by
      rcases Int.lt_or_le 255 back with h2 | h2
      · exact h2
      · rw [backOk_iff.2 ⟨by omega, h2⟩] at h; cases h)
    go_enter Try.func14, Try.ntmps14
    go_wp2_with fail
    go_ret2
    exact FillRes.no hno rfl (Below.refl _ _)

set_option maxHeartbeats 800000 in
theorem rfill_yes (A : Option Addr) (n c : Nat) (v : List Int) (back : Int) (w : World) (hI : Ints w w.heap.size A n v) (hn : n ≤ 1000) (hok : backOk back = true) :
    Calls Try.prog 14 #[.slice A n c, .int .i64 back] w (FillRes v back w) := by
  obtain ⟨i0, hi0, hz0, hz1, hz2⟩ := info_parts size_int'
  obtain ⟨b1, b2⟩ := backOk_iff.1 hok
  have HOK := Lib.hid hok; clear hok
  have d1 : decide (back < 0) = false := decide_eq_false (by omega)
  have d2 : decide (255 < back) = false := decide_eq_false (by omega)
  have hl := Lib.hid hI.length
  go_enter Try.func14, Try.ntmps14
  go_wp2_with fail
  go_loopw [6, 7] (fun u i wr => ∃ k : Nat, k ≤ n ∧ i = .int .i64 k ∧ wr.ownsRow w.heap.size 3 1 u k (cellsI ((fillS v back).take k)) ∧ Hid (∀ x ∈ v.take k, grey x = true) ∧ Below w.heap.size w wr) (fun _ i _ => n - (intOf i).toNat)
  case atStart => exact ⟨0, by omega, rfl, World.ownsRow_nil _ _ _ _, Lib.hid (by simp), Below.refl _ _⟩
  case round =>
    obtain ⟨k, hk, rfl, hown, hgr, hbk⟩ := hrel
    by_cases hlt : k < n
    · obtain ⟨ad, x, rfl, hb, hx, hm, hc, hlo, hhi⟩ := (hI.below hbk (Nat.le_refl _)).get hlt
      have k0 : (0 : Int) ≤ (k : Int) := by omega
      have k1 : (k : Int) < (n : Int) := by omega
      have t0 : decide ((k : Int) < (n : Int)) = true := decide_eq_true k1
      have hfs : (fillS v back)[k]? = some (if x = -1 then back else x) := by simp [fillS, hx]
      have HFS := Lib.hid hfs; clear hfs
      have HX := Lib.hid hx; clear hx
      have HM := Lib.hid hm; clear hm
      have hbk4 : ∀ j, u6.ownBlock = some j → w.heap.size ≤ j := fun j hj => (hown.lt j hj).1
      cases hgx : grey x with
      | false =>
        have hno : (backOk back && v.all grey) = false := by
          rw [Bool.and_eq_false_iff]; right
          rw [List.all_eq_false]; exact ⟨x, HM.out, by rw [hgx]; simp⟩
        have HNO := Lib.hid hno; clear hno
        by_cases h1 : x < -1
        · have e1 : decide (x < -1) = true := decide_eq_true h1
          have HGX := Lib.hid hgx; clear hgx
          go_wp2_with fail
          go_ret2
          exact FillRes.no HNO.out rfl hbk
        · have e1 : decide (x < -1) = false := decide_eq_false h1
          have e2 : decide (255 < x) = true := decide_eq_true (by
            rcases Int.lt_or_le 255 x with h2 | h2
            · exact h2
            · rw [grey_iff.2 ⟨by omega, h2⟩] at hgx; cases hgx)
          have HGX := Lib.hid hgx; clear hgx
          go_wp2_with fail
          go_ret2
          exact FillRes.no HNO.out rfl hbk
      | true =>
        obtain ⟨y1, y2⟩ := grey_iff.1 hgx
        have HGX := Lib.hid hgx; clear hgx
        have e1 : decide (x < -1) = false := decide_eq_false (by omega)
        have e2 : decide (255 < x) = false := decide_eq_false (by omega)
        have HG1 : Hid (∀ y ∈ v.take (k + 1), grey y = true) := Lib.hid fun y hy => by
          rw [take_snoc' _ _ _ HX.out] at hy
          rcases List.mem_append.1 hy with hy | hy
          · exact hgr.out y hy
          · simp only [List.mem_singleton] at hy; subst hy; exact HGX.out
        by_cases h1 : x = -1
        · subst h1
          have e3 : decide ((-1 : Int) < 0) = true := rfl
          have HFS2 : Hid ((fillS v back).take (k + 1) = (fillS v back).take k ++ [back]) := Lib.hid (by
            have e := HFS.out; rw [if_pos rfl] at e; exact take_snoc' _ _ _ e)
          go_wp2_with (at_builtin; refine wpList_append_lies _ rfl (.tmp 37) (.tmp 39) _ rfl w.heap.size 3 i0 _ 1 8 Try.underlying22 hi0 hz0 hz1 hz2 rfl (by decide) _ k (cellsI ((fillS v back).take k)) rfl (hown.alloc _) ⟨wr.heap.size, 0, none⟩ 1 1 [.int .i64 _] rfl rfl (World.news_of_block (heap_alloc_new _ _)) (by simp [Value.oneCell']) (by decide) (by unfold maxLen; omega) (by omega) (by have := hbk.size; simp; omega) _ rfl ?_; intro g4 cap4 w4 hown4 hgr4 hat4 hlt4)
          go_roundw
          case rel => exact ⟨k + 1, by omega, by go_num, by rw [HFS2.out]; simpa [cellsI] using hown4, HG1, (hbk.alloc hbk.size _).grown hgr4 (by have := hbk.size; simp; omega) (fun j hj => hbk4 j hj)⟩
          case measure => simp only [intOf]; omega
        · have e3 : decide (x < 0) = false := decide_eq_false (by omega)
          have HFS2 : Hid ((fillS v back).take (k + 1) = (fillS v back).take k ++ [x]) := Lib.hid (by
            have e := HFS.out; rw [if_neg h1] at e; exact take_snoc' _ _ _ e)
          have H1 := Lib.hid h1; clear h1
          go_wp2_with (at_builtin; refine wpList_append_lies _ rfl (.tmp 41) (.tmp 46) _ rfl w.heap.size 3 i0 _ 1 8 Try.underlying22 hi0 hz0 hz1 hz2 rfl (by decide) _ k (cellsI ((fillS v back).take k)) rfl (hown.alloc _) ⟨wr.heap.size, 0, none⟩ 1 1 [.int .i64 _] rfl rfl (World.news_of_block (heap_alloc_new _ _)) (by simp [Value.oneCell']) (by decide) (by unfold maxLen; omega) (by omega) (by have := hbk.size; simp; omega) _ rfl ?_; intro g4 cap4 w4 hown4 hgr4 hat4 hlt4)
          go_roundw
          case rel => exact ⟨k + 1, by omega, by go_num, by rw [HFS2.out]; simpa [cellsI] using hown4, HG1, (hbk.alloc hbk.size _).grown hgr4 (by have := hbk.size; simp; omega) (fun j hj => hbk4 j hj)⟩
          case measure => simp only [intOf]; omega
    · have t0 : decide ((k : Int) < (n : Int)) = false := decide_eq_false (by omega)
      obtain rfl : k = n := by omega
      obtain ⟨A', c', rfl⟩ := own_shape hown
      go_wp2_with fail
      go_ret2
      unfold FillRes
      rw [fillF_yes (by rw [HOK.out, List.all_eq_true.2 (fun x hx => hgr.out x (by rw [List.take_of_length_le (by rw [hl.out]; omega)]; exact hx))]; rfl)]
      have hlen : (fillS v back).length = k := by simp [fillS, hl.out]
      rw [List.take_of_length_le (by rw [hlen]; exact Nat.le_refl _)] at hown
      refine ⟨A', c', ?_, ?_, hbk⟩
      · simp only [hlen]; rfl
      · simp only [hlen]; exact hown

theorem rfill_any (A : Option Addr) (n c : Nat) (v : List Int) (back : Int) (w : World) (hI : Ints w w.heap.size A n v) (hn : n ≤ 1000) :
    Calls Try.prog 14 #[.slice A n c, .int .i64 back] w (FillRes v back w) := by
  cases h : backOk back with
  | false => exact rfill_no A n c v back w h
  | true => exact rfill_yes A n c v back w hI hn h
end Go.Proofs.Ytmkmmkpigpbkiaa
