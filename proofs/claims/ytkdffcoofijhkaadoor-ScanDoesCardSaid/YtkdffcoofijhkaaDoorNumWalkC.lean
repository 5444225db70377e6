/-
  THE WALKS OF limewashref01.Sum, Less.
-/
import Derived.Test.YtkdffcoofijhkaaDoorNumWalkB
import Derived.StillTailTactics
set_option linter.unusedVariables false
set_option linter.unusedSimpArgs false
namespace Go.Proofs.YtkdffcoofijhkaaDoor
open Go.RowKit

theorem sgn_plus {x y : Int} {b : Bool} (hx : b = decide (x < 0)) (hy : b = decide (y < 0)) : sgn b (x.natAbs + y.natAbs) = x + y := by
  unfold sgn
  cases b
  · have := of_decide_eq_false hx.symm; have := of_decide_eq_false hy.symm; simp; omega
  · have := of_decide_eq_true hx.symm; have := of_decide_eq_true hy.symm; simp; omega
theorem sgn_minus {x y : Int} {b c : Bool} (hx : b = decide (x < 0)) (hy : c = decide (y < 0)) (hbc : b ≠ c) (h : y.natAbs ≤ x.natAbs) : sgn b (x.natAbs - y.natAbs) = x + y := by
  unfold sgn
  cases b <;> cases c <;> simp at hbc
  · have := of_decide_eq_false hx.symm; have := of_decide_eq_true hy.symm; simp; omega
  · have := of_decide_eq_true hx.symm; have := of_decide_eq_false hy.symm; simp; omega

/-- three variables of two cells, new -/
structure Three (w W : World) (a1 b1 a2 b2 a3 b3 : Value) : Prop where
  s1 : Slot2 W w.heap.size a1 b1
  s2 : Slot2 W (w.heap.size + 1) a2 b2
  s3 : Slot2 W (w.heap.size + 1 + 1) a3 b3
  below : Below w.heap.size w W
  size : w.heap.size + 3 ≤ W.heap.size
theorem three (w : World) (a1 b1 a2 b2 a3 b3 : Value) (t : TypeId) : Three w (((w.alloc (.cells #[a1, b1] t)).alloc (.cells #[a2, b2] t)).alloc (.cells #[a3, b3] t)) a1 b1 a2 b2 a3 b3 where
  s1 := ((Slot2.new w a1 b1 t).below ((Below.refl _ _).alloc (Nat.le_refl _) _) (by simp)).below ((Below.refl _ _).alloc (Nat.le_refl _) _) (by simp; omega)
  s2 := by
    have := (Slot2.new (w.alloc (.cells #[a1, b1] t)) a2 b2 t).below ((Below.refl _ _).alloc (Nat.le_refl _) (.cells #[a3, b3] t)) (by simp)
    rw [World.size_alloc] at this; exact this
  s3 := by
    have := Slot2.new ((w.alloc (.cells #[a1, b1] t)).alloc (.cells #[a2, b2] t)) a3 b3 t
    rw [World.size_alloc, World.size_alloc] at this; exact this
  below := (((Below.refl _ _).alloc (Nat.le_refl _) _).alloc (by simp) _).alloc (by simp; omega) _
  size := by simp

theorem Three.after {w W W' : World} {a1 b1 a2 b2 a3 b3 : Value} (h : Three w W a1 b1 a2 b2 a3 b3) (hb : Below W.heap.size W W') : Three w W' a1 b1 a2 b2 a3 b3 where
  s1 := h.s1.below hb (by have := h.size; omega)
  s2 := h.s2.below hb (by have := h.size; omega)
  s3 := h.s3.below hb (by have := h.size; omega)
  below := h.below.trans (hb.mono (by have := h.size; omega))
  size := by have := h.size; have := hb.size; omega

attribute [local go_sem ↓] Go.wp_at_zero Go.wp_at_succ
set_option maxHeartbeats 3200000 in
theorem sum_any (B1 B2 B : Nat) (A1 A2 : Option Addr) (n1 c1 n2 c2 : Nat) (x y : Int) (w : World) (h1 : NumAt w B1 A1 n1 c1 x) (h2 : NumAt w B2 A2 n2 c2 y) (hB1 : B1 ≤ w.heap.size) (hB2 : B2 ≤ w.heap.size) (hl1 : n1 ≤ 1000) (hl2 : n2 ≤ 1000) :
    Calls Tryd.prog 48 #[.agg #[.bool (decide (x < 0)), .slice A1 n1 c1], .agg #[.bool (decide (y < 0)), .slice A2 n2 c2]] w (NumRes w B (x + y)) := by
  obtain ⟨b1, hb1⟩ : ∃ b, b = decide (x < 0) := ⟨_, rfl⟩
  obtain ⟨b2, hb2⟩ : ∃ b, b = decide (y < 0) := ⟨_, rfl⟩
  rw [← hb1, ← hb2]
  have P : Hid (∀ W : World, Below w.heap.size w W → Calls Tryd.prog 67 #[.agg #[.bool b1, .slice A1 n1 c1], .agg #[.bool b2, .slice A2 n2 c2]] W (DigsRes W (x.natAbs + y.natAbs))) := Lib.hid fun W hW =>
    plus_any B1 B2 A1 A2 n1 c1 n2 c2 b1 b2 x y W (h1.below hW hB1) (h2.below hW hB2) (Nat.le_trans hB1 hW.size) (Nat.le_trans hB2 hW.size) hl1 hl2
  have M1 : Hid (∀ W : World, Below w.heap.size w W → y.natAbs ≤ x.natAbs → Calls Tryd.prog 69 #[.agg #[.bool b1, .slice A1 n1 c1], .agg #[.bool b2, .slice A2 n2 c2]] W (DigsRes W (x.natAbs - y.natAbs))) := Lib.hid fun W hW h =>
    minus_any B1 B2 A1 A2 n1 c1 n2 c2 b1 b2 x y W (h1.below hW hB1) (h2.below hW hB2) (Nat.le_trans hB1 hW.size) (Nat.le_trans hB2 hW.size) hl1 h
  have M2 : Hid (∀ W : World, Below w.heap.size w W → x.natAbs ≤ y.natAbs → Calls Tryd.prog 69 #[.agg #[.bool b2, .slice A2 n2 c2], .agg #[.bool b1, .slice A1 n1 c1]] W (DigsRes W (y.natAbs - x.natAbs))) := Lib.hid fun W hW h =>
    minus_any B2 B1 A2 A1 n2 c2 n1 c1 b2 b1 y x W (h2.below hW hB2) (h1.below hW hB1) (Nat.le_trans hB2 hW.size) (Nat.le_trans hB1 hW.size) hl2 h
  have Z : Hid (∀ W : World, Below w.heap.size w W → Calls Tryd.prog 68 #[.agg #[.bool b1, .slice A1 n1 c1], .agg #[.bool b2, .slice A2 n2 c2]] W fun e w' => e = .returned (.int .i64 (cmpN x.natAbs y.natAbs)) ∧ Below W.heap.size W w') := Lib.hid fun W hW =>
    sizeN_any B1 B2 A1 A2 n1 c1 n2 c2 b1 b2 x y W (h1.below hW hB1) (h2.below hW hB2) (Nat.le_trans hB1 hW.size) (Nat.le_trans hB2 hW.size) hl1 hl2
  have T : Hid (∀ (W0 W : World) (b : Bool) (A : Option Addr) (n c : Nat) (out : List Int), W.ownsRow W0.heap.size 3 1 (.slice A n c) n (cellsI out) → dOk out → n ≤ 1001 → Calls Tryd.prog 66 #[.bool b, .slice A n c] W (NumSame W W.heap.size A c (sgn b (val out)))) := Lib.hid fun W0 W b A n c out ho hd hn =>
    trim_any W.heap.size b A n c out W (Ints.of_own ho (fun d hd' => by have := hd d hd'; omega) (by omega)) (Nat.le_refl _) (own_cap ho) hd
  have HX := Lib.hid hb1; clear hb1
  have HY := Lib.hid hb2; clear hb2
  clear h1 h2
  by_cases hbb : b1 = b2
  · subst hbb
    have HV : Hid (sgn b1 (x.natAbs + y.natAbs) = x + y) := Lib.hid (sgn_plus HX.out HY.out)
    generalize x + y = s at HV ⊢
    have hbq : (b1 == b1) = true := by simp
    go_enter Tryd.func48, Tryd.ntmps48
    go_wp2_with fail
    obtain ⟨W3, hW3⟩ : ∃ W3, W3 = (((w.alloc (.cells #[.bool b1, .slice A1 n1 c1] 72)).alloc (.cells #[.bool b1, .slice A2 n2 c2] 72)).alloc (.cells #[.bool false, .slice none 0 0] 72)) := ⟨_, rfl⟩
    have h3 := three w (.bool b1) (.slice A1 n1 c1) (.bool b1) (.slice A2 n2 c2) (.bool false) (.slice none 0 0) 72
    rw [← hW3] at h3 ⊢
    clear hW3
    obtain ⟨⟨q0, q1, _, _⟩, ⟨r0, r1, _, _⟩, hs3, hbk, hsz⟩ := h3
    have HS3 := Lib.hid hs3; clear hs3
    go_region_held3 (fun w' => w'.cell? ⟨w.heap.size, 0, none⟩ = some (.bool b1) ∧ w'.cell? ⟨w.heap.size, 1, none⟩ = some (.slice A1 n1 c1) ∧ w'.cell? ⟨w.heap.size + 1, 0, none⟩ = some (.bool b1) ∧ w'.cell? ⟨w.heap.size + 1, 1, none⟩ = some (.slice A2 n2 c2))
      (first | (go_keep; done) | (refine ⟨?_, ?_, ?_, ?_⟩ <;> (first | assumption | (rw [hby.cell (by dsimp only; omega)]; assumption) | (go_keep; done) | (rw [World.cell?_setCell_far _ _ _ _ (by dsimp only; omega), World.cell?_setCell_far _ _ _ _ (by dsimp only; omega), hby.cell (by dsimp only; omega)]; assumption))))
      (first
        | (go_at_call 67; refine (P.out _ hbk.drew).mono ?_; rintro e wx ⟨A', n', c', out, rfl, hown, hdk, hval, hnk, hbx⟩; have hby : Below W3.heap.size W3 wx := (Below.refl _ W3).drew.trans (hbx.mono (by simp)))
        | (go_at_call 66; refine (T.out _ _ _ _ _ _ out hown hdk hnk).mono ?_; clear T; rintro e wy ⟨n2', rfl, hn2, hbx2⟩; have hbz := hby; have hby : Below W3.heap.size W3 wy := hby.trans (hbx2.mono hby.size); obtain ⟨y0, y1, y2, y3⟩ := HS3.out.below hby (by omega)))
    rw [hval] at hn2
    rw [HV.out] at hn2 ⊢
    have HA := Lib.hid (own_ad hown)
    have HN : Hid (0 < n2' → 0 < n') := Lib.hid fun h0 => by
      have e1 := hn2.len
      have e2 := hown.1
      rw [cellsI_length] at e2
      rcases Nat.eq_zero_or_pos n' with rfl | h
      · obtain rfl := List.length_eq_zero_iff.1 (by omega : out.length = 0)
        have e3 : s.natAbs = 0 := by
          rw [← HV.out, sgn_abs, ← hval]; rfl
        rw [e3, digs_zero] at e1
        simp at e1; omega
      · exact h
    have HB := Lib.hid (hbk.trans (hby.mono (by omega)))
    have hz : wx.heap.size ≤ wy.heap.size := hbx2.size
    have hz' : W3.heap.size ≤ wx.heap.size := hbz.size
    clear hown hdk hval hby hbz hbx hbx2
    obtain ⟨d, hd⟩ : ∃ d, d = decide (s < 0) := ⟨_, rfl⟩
    rw [← hd]
    have HD := Lib.hid hd; clear hd
    go_wp2_with fail
    refine bodyPost_ret (v := .agg #[.bool d, .slice A' n2' c']) (by simp [results, Tryd.results48, go_sem, y0, y1]) rfl ?_
    refine ⟨A', n2', c', by rw [HD.out], ((hn2.set _ _ fun ad e h0 => ?_).set _ _ fun ad e h0 => ?_).more (by simpa using hz), fun ad e h0 => .inr (by have := HA.out ad e (HN.out h0); simp at this; omega), (HB.out.setCell (by dsimp only; omega) _).setCell (by dsimp only; omega) _⟩
    all_goals
      have := HA.out ad e (HN.out h0)
      simp at this
      simp only
      omega
  · have hbq : (b1 == b2) = false := by simpa using hbb
    have HBB := Lib.hid hbb; clear hbb
    obtain ⟨s, hs⟩ : ∃ s, s = x + y := ⟨_, rfl⟩
    rw [← hs]
    have HSX := Lib.hid hs; clear hs
    by_cases hyx : y.natAbs ≤ x.natAbs
    · have HV : Hid (sgn b1 (x.natAbs - y.natAbs) = s) := Lib.hid (by rw [HSX.out]; exact sgn_minus HX.out HY.out HBB.out hyx)
      have M := Lib.hid fun W hW => M1.out W hW hyx
      have hcm : decide ((0 : Int) ≤ cmpN x.natAbs y.natAbs) = true := decide_eq_true (by unfold cmpN; split <;> (try split) <;> omega)
      clear hyx M1 M2 P
      generalize cmpN x.natAbs y.natAbs = cm at Z hcm
      go_enter Tryd.func48, Tryd.ntmps48
      go_wp2_with fail
      obtain ⟨W0, hW0⟩ : ∃ W0, W0 = (((w.alloc (.cells #[.bool b1, .slice A1 n1 c1] 72)).alloc (.cells #[.bool b2, .slice A2 n2 c2] 72)).alloc (.cells #[.bool false, .slice none 0 0] 72)) := ⟨_, rfl⟩
      have h0 := three w (.bool b1) (.slice A1 n1 c1) (.bool b2) (.slice A2 n2 c2) (.bool false) (.slice none 0 0) 72
      rw [← hW0] at h0 ⊢
      clear hW0
      refine (Z.out _ h0.below).mono ?_
      rintro e W3 ⟨rfl, hbz⟩
      have h3 := h0.after hbz
      clear h0 hbz Z
      have h3' := h3
      obtain ⟨⟨q0, q1, _, _⟩, ⟨r0, r1, _, _⟩, _, _, _⟩ := h3'
      go_wp2_with fail
      clear q0 q1 r0 r1
      obtain ⟨⟨q0, q1, _, _⟩, ⟨r0, r1, _, _⟩, hs3, hbk, hsz⟩ := h3
      have HS3 := Lib.hid hs3; clear hs3
      go_region_held3 (fun w' => w'.cell? ⟨w.heap.size, 0, none⟩ = some (.bool b1) ∧ w'.cell? ⟨w.heap.size, 1, none⟩ = some (.slice A1 n1 c1) ∧ w'.cell? ⟨w.heap.size + 1, 0, none⟩ = some (.bool b2) ∧ w'.cell? ⟨w.heap.size + 1, 1, none⟩ = some (.slice A2 n2 c2))
        (first | (go_keep; done) | (refine ⟨?_, ?_, ?_, ?_⟩ <;> (first | assumption | (rw [hby.cell (by dsimp only; omega)]; assumption) | (go_keep; done) | (rw [World.cell?_setCell_far _ _ _ _ (by dsimp only; omega), World.cell?_setCell_far _ _ _ _ (by dsimp only; omega), hby.cell (by dsimp only; omega)]; assumption))))
        (first
          | (go_at_call 69; refine (M.out _ hbk.drew).mono ?_; rintro e wx ⟨A', n', c', out, rfl, hown, hdk, hval, hnk, hbx⟩; have hby : Below W3.heap.size W3 wx := (Below.refl _ W3).drew.trans (hbx.mono (by simp)))
          | (go_at_call 66; refine (T.out _ _ _ _ _ _ out hown hdk hnk).mono ?_; clear T; rintro e wy ⟨n2', rfl, hn2, hbx2⟩; have hbz := hby; have hby : Below W3.heap.size W3 wy := hby.trans (hbx2.mono hby.size); obtain ⟨y0, y1, y2, y3⟩ := HS3.out.below hby (by omega)))
      rw [hval] at hn2
      rw [HV.out] at hn2 ⊢
      have HA := Lib.hid (own_ad hown)
      have HN : Hid (0 < n2' → 0 < n') := Lib.hid fun h0 => by
        have e1 := hn2.len
        have e2 := hown.1
        rw [cellsI_length] at e2
        rcases Nat.eq_zero_or_pos n' with rfl | h
        · obtain rfl := List.length_eq_zero_iff.1 (by omega : out.length = 0)
          have e3 : s.natAbs = 0 := by
            rw [← HV.out, sgn_abs, ← hval]; rfl
          rw [e3, digs_zero] at e1
          simp at e1; omega
        · exact h
      have HB := Lib.hid (hbk.trans (hby.mono (by omega)))
      have hz : wx.heap.size ≤ wy.heap.size := hbx2.size
      have hz' : W3.heap.size ≤ wx.heap.size := hbz.size
      clear hown hdk hval hby hbz hbx hbx2
      obtain ⟨d, hd⟩ : ∃ d, d = decide (s < 0) := ⟨_, rfl⟩
      rw [← hd]
      have HD := Lib.hid hd; clear hd
      go_wp2_with fail
      refine bodyPost_ret (v := .agg #[.bool d, .slice A' n2' c']) (by simp [results, Tryd.results48, go_sem, y0, y1]) rfl ?_
      refine ⟨A', n2', c', by rw [HD.out], ((hn2.set _ _ fun ad e h0 => ?_).set _ _ fun ad e h0 => ?_).more (by simpa using hz), fun ad e h0 => .inr (by have := HA.out ad e (HN.out h0); simp at this; omega), (HB.out.setCell (by dsimp only; omega) _).setCell (by dsimp only; omega) _⟩
      all_goals
        have := HA.out ad e (HN.out h0)
        simp at this
        simp only
        omega
    · have HV : Hid (sgn b2 (y.natAbs - x.natAbs) = s) := Lib.hid (by rw [HSX.out]; exact (sgn_minus HY.out HX.out (fun h => HBB.out h.symm) (by omega)).trans (Int.add_comm _ _))
      have M := Lib.hid fun W hW => M2.out W hW (by omega)
      have hcm : decide ((0 : Int) ≤ cmpN x.natAbs y.natAbs) = false := decide_eq_false (by unfold cmpN; split <;> (try split) <;> omega)
      clear hyx M1 M2 P
      generalize cmpN x.natAbs y.natAbs = cm at Z hcm
      go_enter Tryd.func48, Tryd.ntmps48
      go_wp2_with fail
      obtain ⟨W0, hW0⟩ : ∃ W0, W0 = (((w.alloc (.cells #[.bool b1, .slice A1 n1 c1] 72)).alloc (.cells #[.bool b2, .slice A2 n2 c2] 72)).alloc (.cells #[.bool false, .slice none 0 0] 72)) := ⟨_, rfl⟩
      have h0 := three w (.bool b1) (.slice A1 n1 c1) (.bool b2) (.slice A2 n2 c2) (.bool false) (.slice none 0 0) 72
      rw [← hW0] at h0 ⊢
      clear hW0
      refine (Z.out _ h0.below).mono ?_
      rintro e W3 ⟨rfl, hbz⟩
      have h3 := h0.after hbz
      clear h0 hbz Z
      have h3' := h3
      obtain ⟨⟨q0, q1, _, _⟩, ⟨r0, r1, _, _⟩, _, _, _⟩ := h3'
      go_wp2_with fail
      clear q0 q1 r0 r1
      obtain ⟨⟨q0, q1, _, _⟩, ⟨r0, r1, _, _⟩, hs3, hbk, hsz⟩ := h3
      have HS3 := Lib.hid hs3; clear hs3
      go_region_held3 (fun w' => w'.cell? ⟨w.heap.size, 0, none⟩ = some (.bool b1) ∧ w'.cell? ⟨w.heap.size, 1, none⟩ = some (.slice A1 n1 c1) ∧ w'.cell? ⟨w.heap.size + 1, 0, none⟩ = some (.bool b2) ∧ w'.cell? ⟨w.heap.size + 1, 1, none⟩ = some (.slice A2 n2 c2))
        (first | (go_keep; done) | (refine ⟨?_, ?_, ?_, ?_⟩ <;> (first | assumption | (rw [hby.cell (by dsimp only; omega)]; assumption) | (go_keep; done) | (rw [World.cell?_setCell_far _ _ _ _ (by dsimp only; omega), World.cell?_setCell_far _ _ _ _ (by dsimp only; omega), hby.cell (by dsimp only; omega)]; assumption))))
        (first
          | (go_at_call 69; refine (M.out _ hbk.drew).mono ?_; rintro e wx ⟨A', n', c', out, rfl, hown, hdk, hval, hnk, hbx⟩; have hby : Below W3.heap.size W3 wx := (Below.refl _ W3).drew.trans (hbx.mono (by simp)))
          | (go_at_call 66; refine (T.out _ _ _ _ _ _ out hown hdk hnk).mono ?_; clear T; rintro e wy ⟨n2', rfl, hn2, hbx2⟩; have hbz := hby; have hby : Below W3.heap.size W3 wy := hby.trans (hbx2.mono hby.size); obtain ⟨y0, y1, y2, y3⟩ := HS3.out.below hby (by omega)))
      rw [hval] at hn2
      rw [HV.out] at hn2 ⊢
      have HA := Lib.hid (own_ad hown)
      have HN : Hid (0 < n2' → 0 < n') := Lib.hid fun h0 => by
        have e1 := hn2.len
        have e2 := hown.1
        rw [cellsI_length] at e2
        rcases Nat.eq_zero_or_pos n' with rfl | h
        · obtain rfl := List.length_eq_zero_iff.1 (by omega : out.length = 0)
          have e3 : s.natAbs = 0 := by
            rw [← HV.out, sgn_abs, ← hval]; rfl
          rw [e3, digs_zero] at e1
          simp at e1; omega
        · exact h
      have HB := Lib.hid (hbk.trans (hby.mono (by omega)))
      have hz : wx.heap.size ≤ wy.heap.size := hbx2.size
      have hz' : W3.heap.size ≤ wx.heap.size := hbz.size
      clear hown hdk hval hby hbz hbx hbx2
      obtain ⟨d, hd⟩ : ∃ d, d = decide (s < 0) := ⟨_, rfl⟩
      rw [← hd]
      have HD := Lib.hid hd; clear hd
      go_wp2_with fail
      refine bodyPost_ret (v := .agg #[.bool d, .slice A' n2' c']) (by simp [results, Tryd.results48, go_sem, y0, y1]) rfl ?_
      refine ⟨A', n2', c', by rw [HD.out], ((hn2.set _ _ fun ad e h0 => ?_).set _ _ fun ad e h0 => ?_).more (by simpa using hz), fun ad e h0 => .inr (by have := HA.out ad e (HN.out h0); simp at this; omega), (HB.out.setCell (by dsimp only; omega) _).setCell (by dsimp only; omega) _⟩
      all_goals
        have := HA.out ad e (HN.out h0)
        simp at this
        simp only
        omega
end Go.Proofs.YtkdffcoofijhkaaDoor
