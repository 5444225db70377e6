/-
  THE WALK OF limewashref01.Less.
-/
import Derived.Test.YtcllghcplphijaaDoorNumWalkC
set_option linter.unusedVariables false
set_option linter.unusedSimpArgs false
namespace Go.Proofs.YtcllghcplphijaaDoor
open Go.RowKit
attribute [local go_sem ↓] Go.wp_at_zero Go.wp_at_succ
set_option maxHeartbeats 3200000 in
theorem less_any (B1 B2 : Nat) (A1 A2 : Option Addr) (n1 c1 n2 c2 : Nat) (x y : Int) (w : World) (h1 : NumAt w B1 A1 n1 c1 x) (h2 : NumAt w B2 A2 n2 c2 y) (hB1 : B1 ≤ w.heap.size) (hB2 : B2 ≤ w.heap.size) (hl1 : n1 ≤ 1000) (hl2 : n2 ≤ 1000) :
    Calls Tryd.prog 29 #[.agg #[.bool (decide (x < 0)), .slice A1 n1 c1], .agg #[.bool (decide (y < 0)), .slice A2 n2 c2]] w fun e w' => e = .returned (.bool (decide (x < y))) ∧ Below w.heap.size w w' := by
  have hlen2 := Lib.hid h2.len
  have O : Hid (∀ W : World, Below w.heap.size w W → Calls Tryd.prog 44 #[.agg #[.bool (decide (y < 0)), .slice A2 n2 c2]] W (NumSame W B2 A2 c2 (-y))) := Lib.hid fun W hW => other_any B2 A2 n2 c2 y W (h2.below hW hB2) (Nat.le_trans hB2 hW.size)
  have S : Hid (∀ (W : World) (n3 : Nat), Below w.heap.size w W → NumAt W B2 A2 n3 c2 (-y) → Calls Tryd.prog 34 #[.agg #[.bool (decide (x < 0)), .slice A1 n1 c1], .agg #[.bool (decide (-y < 0)), .slice A2 n3 c2]] W (NumRes W 0 (x + -y))) := Lib.hid fun W n3 hW h3 =>
    sum_any B1 B2 0 A1 A2 n1 c1 n3 c2 x (-y) W (h1.below hW hB1) h3 (Nat.le_trans hB1 hW.size) (Nat.le_trans hB2 hW.size) hl1 (by rw [← h3.len, Int.natAbs_neg, hlen2.out]; exact hl2)
  have HR : Hid (decide (x + -y < 0) = decide (x < y)) := Lib.hid (by by_cases h : x < y; rw [decide_eq_true h, decide_eq_true (by omega)]; rw [decide_eq_false h, decide_eq_false (by omega)])
  rw [← HR.out]
  generalize x + -y = s at S HR ⊢
  clear h1 h2 HR
  generalize -y = z at S O
  generalize decide (x < 0) = b1 at S ⊢
  generalize decide (y < 0) = b2 at O ⊢
  go_enter Tryd.func29, Tryd.ntmps29
  go_wp2_with fail
  obtain ⟨W3, hW3⟩ : ∃ W3, W3 = ((w.alloc (.cells #[.bool b1, .slice A1 n1 c1] 48)).alloc (.cells #[.bool b2, .slice A2 n2 c2] 48)) := ⟨_, rfl⟩
  have s1 := (Slot2.new w (.bool b1) (.slice A1 n1 c1) 48).below ((Below.refl _ _).alloc (Nat.le_refl _) (.cells #[.bool b2, .slice A2 n2 c2] 48)) (by simp)
  have s2 := Slot2.new (w.alloc (.cells #[.bool b1, .slice A1 n1 c1] 48)) (.bool b2) (.slice A2 n2 c2) 48
  have hbk : Below w.heap.size w W3 := by rw [hW3]; exact ((Below.refl _ _).alloc (Nat.le_refl _) _).alloc (by simp) _
  have hsz : W3.heap.size = w.heap.size + 2 := by rw [hW3]; simp
  rw [World.size_alloc] at s2
  rw [← hW3] at s1 s2 ⊢
  clear hW3
  obtain ⟨q0, q1, _, _⟩ := s1
  obtain ⟨r0, r1, _, _⟩ := s2
  go_region_held3 (fun w' => w'.cell? ⟨w.heap.size, 0, none⟩ = some (.bool b1) ∧ w'.cell? ⟨w.heap.size, 1, none⟩ = some (.slice A1 n1 c1) ∧ w'.cell? ⟨w.heap.size + 1, 0, none⟩ = some (.bool b2) ∧ w'.cell? ⟨w.heap.size + 1, 1, none⟩ = some (.slice A2 n2 c2))
    (refine ⟨?_, ?_, ?_, ?_⟩ <;> (first | with_reducible assumption | (rw [hby.cell (by (try dsimp only); omega)]; with_reducible assumption) | (rw [World.cell?_alloc_lt _ _ _ (by have := hby.size; (try dsimp only); omega), hby.cell (by (try dsimp only); omega)]; with_reducible assumption) | (rw [World.cell?_drew]; with_reducible assumption) | (rw [World.cell?_alloc_lt _ _ _ (by simp; omega)]; with_reducible assumption) | (rw [World.cell?_alloc_lt _ _ _ (by simp; omega), World.cell?_drew]; with_reducible assumption) | (rw [World.cell?_setCell_far _ _ _ _ (by have := hby.size; have := hbx.size; simp at this; (try dsimp only); omega), World.cell?_setCell_far _ _ _ _ (by have := hby.size; have := hbx.size; simp at this; (try dsimp only); omega), hby.cell (by (try dsimp only); omega)]; with_reducible assumption) | (go_keep; done)))
    (first
      | (go_at_call 44; refine (O.out _ (by first | exact hbk.drew | exact hbk.drew.alloc (by simp; omega) _)).mono ?_; clear O; rintro e wx ⟨n3, rfl, hn3, hbx⟩; (have hby : Below W3.heap.size W3 wx := by first | exact (Below.refl _ W3).drew.trans (hbx.mono (by simp)) | exact ((Below.refl _ W3).drew.alloc (Nat.le_refl _) _).trans (hbx.mono (by simp))); (try have hS4 : Slot2 wx W3.heap.size (.bool false) (.slice none 0 0) := (Slot2.new W3.drew (.bool false) (.slice none 0 0) 48).below hbx (by simp)))
      | (go_at_call 34; refine (S.out _ _ (by first | exact hbk.trans (hby.mono (by omega)) | exact (hbk.trans (hby.mono (by omega))).alloc (by have := hby.size; omega) _) (by first | exact hn3 | exact hn3.below ((Below.refl _ wx).alloc (Nat.le_refl _) _) (by have := hby.size; omega))).mono ?_; clear S; rintro e wy ⟨A3, n4, c4, rfl, hn4, hap, hbx2⟩; have hbz := hby; (have hby : Below W3.heap.size W3 wy := by first | exact hby.trans (hbx2.mono hby.size) | exact (hby.alloc hby.size _).trans (hbx2.mono (by have := hby.size; simp; omega))); (try have hS5 := hS4.below hbx2 (Nat.lt_of_lt_of_le (Nat.lt_succ_self _) (Nat.le_trans (Nat.le_of_eq (by simp)) hbx.size))); (try have hS5 := (Slot2.new wx (.bool false) (.slice none 0 0) 48).below hbx2 (by simp)); (try (have x0 := hS5.c0; have x1 := hS5.c1; have x2 := hS5.f0; have x3 := hS5.f1; clear hS5; try simp only [hsz] at x0 x1 x2 x3)); (have z0 := (Slot2.new wy (.bool false) (.slice none 0 0) 48).c0; have z1 := (Slot2.new wy (.bool false) (.slice none 0 0) 48).c1; have z2 := (Slot2.new wy (.bool false) (.slice none 0 0) 48).f0; have z3 := (Slot2.new wy (.bool false) (.slice none 0 0) 48).f1)))
  all_goals
    have hz5 := hby.size
    have hz6 := hbz.size
    have HB := Lib.hid (hbk.trans (hby.mono (by omega)))
    obtain ⟨d, hd⟩ : ∃ d, d = decide (s < 0) := ⟨_, rfl⟩
    rw [← hd]
    have HD := Lib.hid hd; clear hd
    go_wp2_with fail
    go_ret
    refine ⟨by rw [← HD.out]; rfl, ?_⟩
    first
      | exact HB.out.alloc (by omega) _
      | exact (HB.out.setCell (by dsimp only; omega) _).setCell (by dsimp only; omega) _
end Go.Proofs.YtcllghcplphijaaDoor
