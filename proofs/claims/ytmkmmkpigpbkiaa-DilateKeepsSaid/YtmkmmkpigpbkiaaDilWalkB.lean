/-
  THE WALK OF dilate.Fill.
-/
import Derived.Test.YtmkmmkpigpbkiaaDilWalkA
set_option linter.unusedVariables false
set_option linter.unusedSimpArgs false
namespace Go.Proofs.Ytmkmmkpigpbkiaa
open Go.RowKit

def FillRes (v : List Int) (back : Int) (w : World) (e : Ending) (w' : World) : Prop := ListRes w 3 1 (fillF v back).1.length (cellsI (fillF v back).1) (fillF v back).2 e w'
theorem FillRes.no {w w' : World} {x : Value} {v : List Int} {back : Int} (h : (backOk back && v.all grey) = false) (hv : x = .tuple #[.slice none 0 0, .int .i64 1]) (hb : Below w.heap.size w w') : FillRes v back w (.returned x) w' := by
  unfold FillRes
  rw [fillF_no h]
  exact ListRes.none_ hv hb

theorem fill_no (A : Option Addr) (n c : Nat) (v : List Int) (back : Int) (w : World) (h : backOk back = false) :
    Calls Try.prog 13 #[.slice A n c, .int .i64 back] w (FillRes v back w) := by
  have hno : (backOk back && v.all grey) = false := by rw [h]; rfl
  by_cases h1 : back < 0
  · have d1 : decide (back < 0) = true := decide_eq_true h1
    go_enter Try.func13, Try.ntmps13
    go_wp2_with fail
    go_ret2
    exact FillRes.no hno rfl (Below.refl _ _)
  · have d1 : decide (back < 0) = false := decide_eq_false h1
    have d2 : decide (255 < back) = true := decide_eq_true (by
      rcases Int.lt_or_le 255 back with h2 | h2
      · exact h2
      · rw [backOk_iff.2 ⟨by omega, h2⟩] at h; cases h)
    go_enter Try.func13, Try.ntmps13
    go_wp2_with fail
    go_ret2
    exact FillRes.no hno rfl (Below.refl _ _)

set_option maxHeartbeats 800000 in
theorem fill_yes (A : Option Addr) (n c : Nat) (v : List Int) (back : Int) (w : World) (hI : Ints w w.heap.size A n v) (hn : n ≤ 1000) (hok : backOk back = true) :
    Calls Try.prog 13 #[.slice A n c, .int .i64 back] w (FillRes v back w) := by
  obtain ⟨b1, b2⟩ := backOk_iff.1 hok
  have HOK := Lib.hid hok; clear hok
  have d1 : decide (back < 0) = false := decide_eq_false (by omega)
  have d2 : decide (255 < back) = false := decide_eq_false (by omega)
  have hl := Lib.hid hI.length
  have HC := Lib.hid (clone_any A n c v w hI hn)
  have H64 := Lib.hid hI.i64
  go_enter Try.func13, Try.ntmps13
  go_wp2_with fail
  refine HC.out.mono ?_
  clear HC
  intro e w1 h1
  obtain ⟨A1, c1, rfl, hown, hb1⟩ := h1
  have hzw : w.heap.size ≤ w1.heap.size := hb1.size
  go_wp2_with fail
  go_loopw [19] (fun i wr => ∃ k : Nat, k ≤ n ∧ i = .int .i64 k ∧ Hid (wr.ownsRow w.heap.size 3 1 (.slice A1 n c1) n (cellsI (mixI (fillAt v back) v k))) ∧ Hid (∀ x ∈ v.take k, grey x = true) ∧ Below w.heap.size w wr) (fun i _ => n - (intOf i).toNat)
  case atStart => exact ⟨0, by omega, rfl, Lib.hid (by rw [mixI_zero]; exact hown), Lib.hid (by simp), hb1⟩
  case round =>
    obtain ⟨k, hk, rfl, hrow, hgr, hbk⟩ := hrel
    by_cases hlt : k < n
    · obtain ⟨g, hA, hg1, hg2, hg3, hgc⟩ := own_cells hrow.out (by omega)
      subst hA
      have hkv : k < v.length := by rw [hl.out]; exact hlt
      obtain ⟨x, hx⟩ : ∃ x, v[k]? = some x := ⟨_, List.getElem?_eq_getElem hkv⟩
      have hxm := List.mem_of_getElem? hx
      obtain ⟨x1, x2⟩ := H64.out x hxm
      have hc : wr.cell? ⟨g, k, none⟩ = some (.int .i64 x) := hgc k _ (by rw [cellsI_get, mixI_get, hx]; rfl)
      have hf : wr.frozen? ⟨g, k, none⟩ = false := hrow.out.frozenAt k
      have ha : (⟨g, 0, none⟩ : Addr).add k = ⟨g, k, none⟩ := addr_lit _ _
      have k0 : (0 : Int) ≤ (k : Int) := by omega
      have k1 : (k : Int) < (n : Int) := by omega
      have t0 : decide ((k : Int) < (n : Int)) = true := decide_eq_true k1
      have hfa : fillAt v back k = if x = -1 then back else x := by simp [fillAt, List.getD_eq_getElem?_getD, hx]
      have HFA := Lib.hid hfa; clear hfa
      have HX := Lib.hid hx; clear hx
      have HXM := Lib.hid hxm; clear hxm hgc
      cases hgx : grey x with
      | false =>
        have hno : (backOk back && v.all grey) = false := by
          rw [Bool.and_eq_false_iff]; right
          rw [List.all_eq_false]; exact ⟨x, HXM.out, by rw [hgx]; simp⟩
        have HNO := Lib.hid hno; clear hno
        by_cases h1 : x < -1
        · have e1 : decide (x < -1) = true := decide_eq_true h1
          have HGX := Lib.hid hgx; clear hgx
          go_wp2_with fail
          go_ret2
          exact FillRes.no HNO.out rfl hbk
        · have e1 : decide (x < -1) = false := decide_eq_false h1
          have e2 : decide (255 < x) = true := decide_eq_true (by
            rcases Int.lt_or_le 255 x with h2 | h2
            · exact h2
            · rw [grey_iff.2 ⟨by omega, h2⟩] at hgx; cases hgx)
          have HGX := Lib.hid hgx; clear hgx
          go_wp2_with fail
          go_ret2
          exact FillRes.no HNO.out rfl hbk
      | true =>
        obtain ⟨y1, y2⟩ := grey_iff.1 hgx
        have HGX := Lib.hid hgx; clear hgx
        have e1 : decide (x < -1) = false := decide_eq_false (by omega)
        have e2 : decide (255 < x) = false := decide_eq_false (by omega)
        have HG1 : Hid (∀ y ∈ v.take (k + 1), grey y = true) := Lib.hid fun y hy => by
          rw [take_snoc' _ _ _ HX.out] at hy
          rcases List.mem_append.1 hy with hy | hy
          · exact hgr.out y hy
          · simp only [List.mem_singleton] at hy; subst hy; exact HGX.out
        by_cases h1 : x = -1
        · subst h1
          obtain ⟨hs1, hs2⟩ := hrow.out.stored k (.int .i64 back)
          have HS : Hid ((wr.setCell ⟨g, k, none⟩ (.int .i64 back)).ownsRow w.heap.size 3 1 (.slice (some ⟨g, 0, none⟩) n c1) n (cellsI (mixI (fillAt v back) v (k + 1)))) := Lib.hid (by
            have e := HFA.out
            rw [if_pos rfl] at e
            rw [← mixI_set _ _ _ (by rw [hl.out]; exact hlt), e]
            simpa [cellsI] using hs1)
          clear hs1 hs2
          go_wp2_with fail
          go_roundw
          case rel => exact ⟨k + 1, by omega, by go_num, HS, HG1, hbk.setCell (p := ⟨g, k, none⟩) hg1 _⟩
          case measure => simp only [intOf]; omega
        · have e3 : (x == -1) = false := by simpa using h1
          have HS : Hid (wr.ownsRow w.heap.size 3 1 (.slice (some ⟨g, 0, none⟩) n c1) n (cellsI (mixI (fillAt v back) v (k + 1)))) := Lib.hid (by
            have e := HFA.out
            rw [if_neg h1] at e
            rw [← mixI_same _ _ _ (by rw [e]; exact HX.out)]
            exact hrow.out)
          have H1 := Lib.hid h1; clear h1
          go_wp2_with fail
          go_roundw
          case rel => exact ⟨k + 1, by omega, by go_num, HS, HG1, hbk⟩
          case measure => simp only [intOf]; omega
    · have t0 : decide ((k : Int) < (n : Int)) = false := decide_eq_false (by omega)
      obtain rfl : k = n := by omega
      go_wp2_with fail
      go_ret2
      unfold FillRes
      rw [fillF_yes (by rw [HOK.out, List.all_eq_true.2 (fun x hx => hgr.out x (by rw [List.take_of_length_le (by rw [hl.out]; omega)]; exact hx))]; rfl)]
      have e : mixI (fillAt v back) v k = fillS v back := by rw [← fillS_range, ← mixI_done, hl.out]
      have hrow' := hrow.out
      rw [e] at hrow'
      have hlen : (fillS v back).length = k := by simp [fillS, hl.out]
      refine ⟨A1, c1, ?_, ?_, hbk⟩
      · simp only [hlen]; rfl
      · simp only [hlen]; exact hrow'

theorem fill_any (A : Option Addr) (n c : Nat) (v : List Int) (back : Int) (w : World) (hI : Ints w w.heap.size A n v) (hn : n ≤ 1000) :
    Calls Try.prog 13 #[.slice A n c, .int .i64 back] w (FillRes v back w) := by
  cases h : backOk back with
  | false => exact fill_no A n c v back w h
  | true => exact fill_yes A n c v back w hI hn h
end Go.Proofs.Ytmkmmkpigpbkiaa
