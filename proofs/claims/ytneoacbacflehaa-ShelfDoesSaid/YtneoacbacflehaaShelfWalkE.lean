/-
  THE WALK OF shelf.Is.
-/
import Derived.Test.YtneoacbacflehaaShelfWalkD
set_option linter.unusedVariables false
set_option linter.unusedSimpArgs false
namespace Go.Proofs.Ytneoacbacflehaa
open Go.RowKit

set_option maxHeartbeats 1600000 in
theorem is_any (A : Option Addr) (n c : Nat) (l : List Rc) (ww h : Int) (w : World) (hR : Rects w w.heap.size A n l) (hcn : n ≤ c) (bw : i64b ww) (bh : i64b h) :
    Calls Try.prog 19 #[.int .i64 ww, .int .i64 h, .slice A n c] w fun e w' => e = .returned (.bool (isS ww h l)) ∧ Below w.heap.size w w' := by
  have hn := hR.len
  obtain ⟨bw1, bw2⟩ := bw
  obtain ⟨bh1, bh2⟩ := bh
  have hlen := Lib.hid hR.length
  go_enter Try.func19, Try.ntmps19
  go_wp2_with fail
  go_loopw [11] (fun i wr => ∃ k : Nat, k ≤ n ∧ i = .int .i64 k ∧ Hid (isTo ww h l k = true) ∧ Below w.heap.size w wr) (fun i _ => n - (intOf i).toNat)
  case atStart => exact ⟨0, Nat.zero_le _, rfl, rfl, Below.refl _ _⟩
  case round =>
    obtain ⟨k, hk, rfl, hto, hbel⟩ := hrel
    by_cases hlt : k < n
    · obtain ⟨ad, p, rfl, hb, hx, hm, hpb, hc0, hc1, hc2, hc3⟩ := (hR.below hbel (Nat.le_refl _)).get hlt
      have HX := Lib.hid hx; clear hx
      obtain ⟨rx, ry, rw', rh⟩ := p
      obtain ⟨⟨x1, x2⟩, ⟨y1, y2⟩, ⟨w1, w2⟩, ⟨h1, h2⟩⟩ := hpb
      simp only at x1 x2 y1 y2 w1 w2 h1 h2 hc0 hc1 hc2 hc3
      have hm1 : (if rh < rw' then rh else rw') = min rw' rh := by rw [Int.min_def]; split <;> split <;> omega
      have hm2 : (if ry < rx then ry else rx) = min rx ry := by rw [Int.min_def]; split <;> split <;> omega
      have hnext : Hid (isTo ww h l (k + 1) = (insideS ww h ⟨rx, ry, rw', rh⟩ && (l.take k).all (fun o => apartS o ⟨rx, ry, rw', rh⟩))) := by
        refine Lib.hid ?_
        simp only [isTo, hto.out, HX.out, Bool.true_and]
      have hmono := isTo_mono ww h l (k := k + 1) (m := n) (by omega)
      have HM := Lib.hid hmono; clear hmono
      have hwr : w.heap.size ≤ wr.heap.size := hbel.size
      cases hin : insideS ww h ⟨rx, ry, rw', rh⟩ with
      | false =>
        have hnin : ¬ (1 ≤ rw' ∧ 1 ≤ rh ∧ 0 ≤ rx ∧ 0 ≤ ry ∧ rw' ≤ ww ∧ rh ≤ h ∧ rx ≤ ww - rw' ∧ ry ≤ h - rh) := by
          intro hc
          rw [(insideS_iff ww h ⟨rx, ry, rw', rh⟩).2 hc] at hin; cases hin
        have HIN := Lib.hid hin; clear hin
        go_wp2_with fail
        all_goals first
          | (go_ret; exact ⟨ret_bool (by rw [isS, hlen.out]; exact (HM.out (by rw [hnext.out, HIN.out]; rfl)).symm), hbel.alloc hwr _⟩)
          | (exfalso; omega)
      | true =>
        obtain ⟨i1, i2, i3, i4, i5, i6, i7, i8⟩ := (insideS_iff ww h ⟨rx, ry, rw', rh⟩).1 hin
        simp only at i1 i2 i3 i4 i5 i6 i7 i8
        have HIN := Lib.hid hin; clear hin
        have d1 : decide (min rw' rh < 1) = false := decide_eq_false (by omega)
        have d2 : decide (min rx ry < 0) = false := decide_eq_false (by omega)
        have d3 : decide (ww < rw') = false := decide_eq_false (by omega)
        have d4 : decide (h < rh) = false := decide_eq_false (by omega)
        have d5 : decide (ww - rw' < rx) = false := decide_eq_false (by omega)
        have d6 : decide (h - rh < ry) = false := decide_eq_false (by omega)
        have hk0 : (0 : Int) ≤ (k : Int) := by omega
        have hkc : (k : Int) ≤ (c : Int) := by omega
        have hw5 : Hid (∀ W, W = wr.alloc (.cells #[.int .i64 rx, .int .i64 ry, .int .i64 rw', .int .i64 rh] 24) → Calls Try.prog 32 #[.slice (some ad) k c, .func (.func 33) #[] #[.pointer (some ⟨wr.heap.size, 0, none⟩)]] W
            fun e w' => e = .returned (.bool ((l.take k).any (fun o => !apartS o ⟨rx, ry, rw', rh⟩))) ∧ Below W.heap.size W w') := by
          refine Lib.hid ?_
          rintro W rfl
          exact containsR_any w.heap.size 33 (fun o => !apartS o ⟨rx, ry, rw', rh⟩) _ _
            (fun o W ho hW => notApart_any o ⟨rx, ry, rw', rh⟩ _ W ho ⟨⟨x1, x2⟩, ⟨y1, y2⟩, ⟨w1, w2⟩, ⟨h1, h2⟩⟩ ((RcAt.new wr ⟨rx, ry, rw', rh⟩ _).below hW (by simp)) (by have := hW.size; simp at this; omega))
            (run_callFunc_go Try.func33 (by kernel_rfl) (by kernel_rfl)) _ k c (l.take k) ((hR.below (hbel.alloc hwr _) (Nat.le_refl _)).take (by omega)) (by simp; omega)
        go_wp2_with fail
        refine (hw5.out _ rfl).mono ?_
        rintro e w2 ⟨rfl, hb2⟩
        have hb3 : Below w.heap.size w w2 := (hbel.alloc hwr _).trans (hb2.mono (by simp; omega))
        clear hb2
        cases hany : (l.take k).any (fun o => !apartS o ⟨rx, ry, rw', rh⟩) with
        | true =>
          have HA := Lib.hid hany; clear hany
          go_wp2_with fail
          go_ret
          refine ⟨ret_bool ?_, hb3⟩
          rw [isS, hlen.out]
          exact (HM.out (by rw [hnext.out, HIN.out, List.all_eq_not_any_not, HA.out]; rfl)).symm
        | false =>
          have HA := Lib.hid hany; clear hany
          go_wp2_with fail
          go_roundw
          case rel => exact ⟨k + 1, by omega, by go_num, Lib.hid (by rw [hnext.out, HIN.out, List.all_eq_not_any_not, HA.out]; rfl), hb3⟩
          case measure => simp [intOf]; omega
    · obtain rfl : k = n := by omega
      go_wp2_with fail
      go_ret
      exact ⟨ret_bool (by rw [isS, hlen.out]; exact hto.out.symm), hbel⟩
end Go.Proofs.Ytneoacbacflehaa
