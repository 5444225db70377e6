/-
  THE LAW FaceBack.
-/
import Derived.Test.YtkdffcoofijhkaaDoorFaceWalkI
import Derived.Test.YtkdffcoofijhkaaDoorFaceBk
import Derived.Test.YtkdffcoofijhkaaDoorScanLawA
set_option linter.unusedVariables false
set_option linter.unusedSimpArgs false
set_option maxRecDepth 100000
namespace Go.Proofs.YtkdffcoofijhkaaDoor
open Go.RowKit

set_option maxHeartbeats 1600000 in
theorem faceback_no (c : P3) (v t n : Int) (w : World) (hc : c.bd) (hE : Env w) (h : okC c = false) : Calls Tryd.prog 11 #[p3V c, .int .i64 v, .int .i64 t, .int .i64 n] w (Yes w) := by
  have K1 := Lib.hid (fun W hW => fprint_any c W hc hW)
  have K3 := Lib.hid (fun W hW => faced_any W hW)
  have e : printC c = ([], 1) := by unfold printC; rw [h]; rfl
  rw [e] at K1
  have HE := Lib.hid hE
  clear hE e h hc
  obtain ⟨c0, c1, c2⟩ := c
  unfold Yes SE p3V at *
  simp only at *
  have hs := SlotN.new w [.int .i64 c0, .int .i64 c1, .int .i64 c2] #[.int .i64 c0, .int .i64 c1, .int .i64 c2] 26 rfl
  have hb : Below w.heap.size w (w.alloc (.cells #[.int .i64 c0, .int .i64 c1, .int .i64 c2] 26)) := (Below.refl _ _).alloc (Nat.le_refl _) _
  have d0 := hs.c 0 _ rfl
  have d1 := hs.c 1 _ rfl
  have d2 := hs.c 2 _ rfl
  go_enter Tryd.func11, Tryd.ntmps11
  go_wp2_with fail
  generalize w.alloc (.cells #[.int .i64 c0, .int .i64 c1, .int .i64 c2] 26) = V at hb ⊢
  clear hs d0 d1 d2
  have HB := Lib.hid hb; clear hb
  refine (K1.out _ (HE.out.on HB.out)).mono ?_
  clear K1
  rintro e w1 ⟨rfl, hb1⟩
  have HB := Lib.hid (HB.out.trans (hb1.mono HB.out.size)); clear hb1
  go_wp2_with fail
  refine (K3.out _ (HE.out.on HB.out)).mono ?_
  clear K3
  rintro e w3 ⟨rfl, hb1⟩
  have HB := Lib.hid (HB.out.trans (hb1.mono HB.out.size)); clear hb1
  go_wp2_with fail
  go_ret
  exact ⟨rfl, HB.out⟩

set_option maxHeartbeats 6400000 in
theorem faceback_yes (c : P3) (v t n : Int) (w : World) (hc : c.bd) (hm : (⟨v, t, n⟩ : P3).bd) (hE : Env w) (h : okC c = true) : Calls Tryd.prog 11 #[p3V c, .int .i64 v, .int .i64 t, .int .i64 n] w (Yes w) := by
  have K1 := Lib.hid (fun W hW => fprint_any c W hc hW)
  have K3 := Lib.hid (fun W hW => faced_any W hW)
  have e : printC c = (textC c, 0) := by unfold printC; rw [h]; rfl
  have htl : (textC c).length ≤ 100 := by
    have hd : ∀ k : Int, k ≤ 9999998 → (Lib.decDigits (k + 1).toNat).length ≤ 7 := fun k hk => dec_len _ 6 (by omega)
    have h9 := h
    unfold okC at h9
    rw [decide_eq_true_iff] at h9
    have a1 := hd c.a (by omega)
    have a2 := hd c.b (by omega)
    have a3 := hd c.c (by omega)
    have a4 : (numC c.b).length ≤ 7 := by unfold numC; split; exact a2; simp
    rw [textC_eq]
    split
    · split
      · omega
      · simp; omega
    · simp; omega
  have K2 := Lib.hid (fun W hW => corner_any (textC c) ⟨v, t, n⟩ W (by omega) hW hm)
  rw [back_law c ⟨v, t, n⟩ h] at K2
  rw [e] at K1
  have HE := Lib.hid hE
  have HC : (decide (c.a < v) = false ∧ thereC c ⟨v, t, n⟩ = false) ∨ (decide (c.a < v) = true ∧ decide (c.b < 0) = false ∧ decide (c.b < t) = false ∧ thereC c ⟨v, t, n⟩ = false) ∨
      (decide (c.a < v) = true ∧ decide (c.b < 0) = true ∧ decide (c.c < 0) = false ∧ decide (c.c < n) = false ∧ thereC c ⟨v, t, n⟩ = false) ∨ (decide (c.a < v) = true ∧ decide (c.b < 0) = false ∧ decide (c.b < t) = true ∧ decide (c.c < 0) = false ∧ decide (c.c < n) = false ∧ thereC c ⟨v, t, n⟩ = false) ∨
      (decide (c.a < v) = true ∧ decide (c.b < 0) = true ∧ decide (c.c < 0) = true ∧ thereC c ⟨v, t, n⟩ = true) ∨ (decide (c.a < v) = true ∧ decide (c.b < 0) = true ∧ decide (c.c < 0) = false ∧ decide (c.c < n) = true ∧ thereC c ⟨v, t, n⟩ = true) ∨
      (decide (c.a < v) = true ∧ decide (c.b < 0) = false ∧ decide (c.b < t) = true ∧ decide (c.c < 0) = true ∧ thereC c ⟨v, t, n⟩ = true) ∨ (decide (c.a < v) = true ∧ decide (c.b < 0) = false ∧ decide (c.b < t) = true ∧ decide (c.c < 0) = false ∧ decide (c.c < n) = true ∧ thereC c ⟨v, t, n⟩ = true) := by
    unfold thereC
    simp only
    cases decide (c.a < v) <;> cases decide (c.b < 0) <;> cases decide (c.b < t) <;> cases decide (c.c < 0) <;> cases decide (c.c < n) <;> simp
  clear hE e h hc hm htl
  generalize textC c = tx at *
  generalize thereC c ⟨v, t, n⟩ = th at *
  obtain ⟨c0, c1, c2⟩ := c
  unfold Yes SE p3V CornerRes p3V at *
  simp only at *
  have hs := SlotN.new w [.int .i64 c0, .int .i64 c1, .int .i64 c2] #[.int .i64 c0, .int .i64 c1, .int .i64 c2] 26 rfl
  have hb : Below w.heap.size w (w.alloc (.cells #[.int .i64 c0, .int .i64 c1, .int .i64 c2] 26)) := (Below.refl _ _).alloc (Nat.le_refl _) _
  have hz : w.heap.size < (w.alloc (.cells #[.int .i64 c0, .int .i64 c1, .int .i64 c2] 26)).heap.size := by simp
  have d0 := hs.c 0 _ rfl
  have d1 := hs.c 1 _ rfl
  have d2 := hs.c 2 _ rfl
  have HHC := Lib.hid HC; clear HC
  go_enter Tryd.func11, Tryd.ntmps11
  go_wp2_with fail
  generalize w.alloc (.cells #[.int .i64 c0, .int .i64 c1, .int .i64 c2] 26) = V at hb hs hz ⊢
  clear d0 d1 d2
  have HB := Lib.hid hb; clear hb
  refine (K1.out _ (HE.out.on HB.out)).mono ?_
  clear K1
  rintro e w1 ⟨rfl, hb1⟩
  have HB := Lib.hid (HB.out.trans (hb1.mono HB.out.size))
  have HS := Lib.hid (hs.below hb1 hz)
  have hz1 : w.heap.size < w1.heap.size := by have := hb1.size; omega
  clear hb1 hs hz
  go_wp2_with fail
  refine (K2.out _ (HE.out.on HB.out)).mono ?_
  clear K2
  rintro e w2 ⟨rfl, hb1⟩
  have HB := Lib.hid (HB.out.trans (hb1.mono HB.out.size))
  have HS := Lib.hid (HS.out.below hb1 hz1)
  have hz2 : w.heap.size < w2.heap.size := by have := hb1.size; omega
  clear hb1 hz1
  cases th with
  | true =>
    simp only [if_true]
    rcases HHC.out with ⟨_, h9⟩ | ⟨_, _, _, h9⟩ | ⟨_, _, _, _, h9⟩ | ⟨_, _, _, _, _, h9⟩ | ⟨f1, f2, f3, _⟩ | ⟨f1, f2, f3, f4, _⟩ | ⟨f1, f2, f3, f4, _⟩ | ⟨f1, f2, f3, f4, f5, _⟩
    · cases h9
    · cases h9
    · cases h9
    · cases h9
    all_goals
      clear HHC
      have hs2 := SlotN.new w2 [.int .i64 c0, .int .i64 c1, .int .i64 c2] #[.int .i64 c0, .int .i64 c1, .int .i64 c2] 26 rfl
      have hb2 : Below w2.heap.size w2 (w2.alloc (.cells #[.int .i64 c0, .int .i64 c1, .int .i64 c2] 26)) := (Below.refl _ _).alloc (Nat.le_refl _) _
      have hs3 := HS.out.below hb2 hz2
      have d0 := hs3.c 0 _ rfl
      have d1 := hs3.c 1 _ rfl
      have d2 := hs3.c 2 _ rfl
      have hz3 : w2.heap.size < (w2.alloc (.cells #[.int .i64 c0, .int .i64 c1, .int .i64 c2] 26)).heap.size := by simp
      go_wp2_with fail
      generalize w2.alloc (.cells #[.int .i64 c0, .int .i64 c1, .int .i64 c2] 26) = V2 at hb2 hs2 hs3 hz3 ⊢
      clear d0 d1 d2
      have HB := Lib.hid (HB.out.trans (hb2.mono HB.out.size))
      have hz4 : w.heap.size < V2.heap.size := by omega
      clear hb2
      refine (K3.out _ (HE.out.on HB.out)).mono ?_
      clear K3
      rintro e w3 ⟨rfl, hb1⟩
      have d0 := (hs3.below hb1 hz4).c 0 _ rfl
      have d1 := (hs3.below hb1 hz4).c 1 _ rfl
      have d2 := (hs3.below hb1 hz4).c 2 _ rfl
      have e0 := (hs2.below hb1 hz3).c 0 _ rfl
      have e1 := (hs2.below hb1 hz3).c 1 _ rfl
      have e2 := (hs2.below hb1 hz3).c 2 _ rfl
      have HB := Lib.hid (HB.out.trans (hb1.mono HB.out.size)); clear hb1 hs2 hs3
      go_wp2_with fail
      go_ret
      exact ⟨rfl, HB.out⟩
  | false =>
    simp only [Bool.false_eq_true, if_false]
    rcases HHC.out with ⟨f1, _⟩ | ⟨f1, f2, f3, _⟩ | ⟨f1, f2, f3, f4, _⟩ | ⟨f1, f2, f3, f4, f5, _⟩ | ⟨_, _, _, h9⟩ | ⟨_, _, _, _, h9⟩ | ⟨_, _, _, _, h9⟩ | ⟨_, _, _, _, _, h9⟩
    case inr.inr.inr.inr.inl => cases h9
    case inr.inr.inr.inr.inr.inl => cases h9
    case inr.inr.inr.inr.inr.inr.inl => cases h9
    case inr.inr.inr.inr.inr.inr.inr => cases h9
    all_goals
      clear HHC
      have hb2 : Below w2.heap.size w2 (w2.alloc (.cells #[.int .i64 0, .int .i64 0, .int .i64 0] 26)) := (Below.refl _ _).alloc (Nat.le_refl _) _
      have hs3 := HS.out.below hb2 hz2
      have d0 := hs3.c 0 _ rfl
      have d1 := hs3.c 1 _ rfl
      have d2 := hs3.c 2 _ rfl
      go_wp2_with fail
      generalize w2.alloc (.cells #[.int .i64 0, .int .i64 0, .int .i64 0] 26) = V2 at hb2 hs3 ⊢
      clear d0 d1 d2 hs3
      have HB := Lib.hid (HB.out.trans (hb2.mono HB.out.size))
      clear hb2
      refine (K3.out _ (HE.out.on HB.out)).mono ?_
      clear K3
      rintro e w3 ⟨rfl, hb1⟩
      have HB := Lib.hid (HB.out.trans (hb1.mono HB.out.size)); clear hb1
      go_wp2_with fail
      go_ret
      exact ⟨rfl, HB.out⟩
theorem faceback_row (c : P3) (v t n : Int) (w : World) (hc : c.bd) (hm : (⟨v, t, n⟩ : P3).bd) (hE : Env w) : Calls Tryd.prog 11 #[p3V c, .int .i64 v, .int .i64 t, .int .i64 n] w fun e w' => e = .returned (.bool true) ∧ Below w.heap.size w w' := by
  cases h : okC c with
  | false => exact faceback_no c v t n w hc hE h
  | true => exact faceback_yes c v t n w hc hm hE h
end Go.Proofs.YtkdffcoofijhkaaDoor
