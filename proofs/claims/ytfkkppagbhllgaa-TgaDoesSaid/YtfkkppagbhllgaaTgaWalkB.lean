/-
  THE STEPS OF tga's (row).same.
-/
import Derived.Test.YtfkkppagbhllgaaTgaWalkA
set_option linter.unusedVariables false
set_option linter.unusedSimpArgs false
set_option maxRecDepth 8000
namespace Go.Proofs.Ytfkkppagbhllgaa
open Go.RowKit

set_option maxHeartbeats 3200000 in
theorem same_any (z : Nat) (l : List UInt8) (i : Nat) (w : World) (hz : z = 3 ∨ z = 4) (hl : l.length ≤ 1000000) (hi : i < manyT z l) :
    Calls Try.prog 67 #[rowV z l, .int .i64 (i : Int)] w fun e w' => e = .returned (.bool (sameT z l i)) ∧ Below w.heap.size w w' := by
  have K1 := Lib.hid (fun W => many_any z l W hz hl)
  have K2 := Lib.hid (fun W => at_any z l i W hz hl hi)
  have hm : manyT z l ≤ 1000000 := Nat.le_trans (Nat.div_le_self _ _) hl
  have hb : Below w.heap.size w (w.alloc (.cells #[.string ⟨l.toArray⟩, .int .i64 (z : Int)] 48)) := (Below.refl _ _).alloc (Nat.le_refl _) _
  have s := SlotN.new w [.string ⟨l.toArray⟩, .int .i64 (z : Int)] #[.string ⟨l.toArray⟩, .int .i64 (z : Int)] 48 rfl
  have s0 := s.c 0 _ rfl
  have s1 := s.c 1 _ rfl
  have hz0 : (w.alloc (.cells #[.string ⟨l.toArray⟩, .int .i64 (z : Int)] 48)).heap.size = w.heap.size + 1 := by simp
  clear s
  by_cases h : i + 1 < manyT z l
  · have K3 := Lib.hid (fun W => at_any z l (i + 1) W hz hl h)
    have e : sameT z l i = (colT z l i == colT z l (i + 1)) := by unfold sameT; rw [decide_eq_true h]; rfl
    rw [e]
    have t1 : decide ((i : Int) + 1 < ((manyT z l : Nat) : Int)) = true := decide_eq_true (by omega)
    have w1 : IntKind.i64.wrap ((i : Int) + 1) = (i : Int) + 1 := by rw [IntKind.wrap_i64]; omega
    generalize colT z l i = c1 at *
    generalize colT z l (i + 1) = c2 at *
    generalize manyT z l = m at *
    obtain ⟨b, hbb⟩ : ∃ b, b = (c1 == c2) := ⟨_, rfl⟩
    rw [← hbb]
    have HBB := Lib.hid hbb
    clear e hbb
    have e9 : ((i + 1 : Nat) : Int) = (i : Int) + 1 := by omega
    rw [e9] at K3
    clear e9
    unfold rowV at *
    go_enter Try.func67, Try.ntmps67
    go_wp2_with fail
    generalize w.alloc (.cells #[.string ⟨l.toArray⟩, .int .i64 (z : Int)] 48) = W0 at *
    go_region_held3 (fun w' => w'.cell? ⟨w.heap.size, 0, none⟩ = some (.string ⟨l.toArray⟩) ∧ w'.cell? ⟨w.heap.size, 1, none⟩ = some (.int .i64 (z : Int)))
      (refine ⟨?_, ?_⟩ <;> (first | with_reducible assumption | (rw [hby.cell (by (try dsimp only); omega)]; with_reducible assumption) | (go_keep; done)))
      (first
        | (go_at_call 66; refine (K1.out _).mono ?_; clear K1; rintro e wx ⟨rfl, hbx⟩; have hby : Below W0.heap.size W0 wx := by first | exact hby.trans (hbx.mono hby.size) | exact (Below.refl _ W0).drew.trans (hbx.mono (by simp)))
        | (go_at_call_of 53 (Value.int IntKind.i64 (i : Int)); refine (K2.out _).mono ?_; clear K2; rintro e wx ⟨rfl, hbx⟩; have hby : Below W0.heap.size W0 wx := by first | exact hby.trans (hbx.mono hby.size) | exact (Below.refl _ W0).drew.trans (hbx.mono (by simp)))
        | (go_at_call 53; refine (K3.out _).mono ?_; clear K3; rintro e wx ⟨rfl, hbx⟩; have hby : Below W0.heap.size W0 wx := by first | exact hby.trans (hbx.mono hby.size) | exact (Below.refl _ W0).drew.trans (hbx.mono (by simp))))
    all_goals
      go_wp2_with fail
      go_ret
      exact ⟨ret_bool HBB.out.symm, hb.trans (hby.mono hb.size)⟩
  · have e : sameT z l i = false := by unfold sameT; rw [decide_eq_false h]; rfl
    rw [e]
    have t1 : decide ((i : Int) + 1 < ((manyT z l : Nat) : Int)) = false := decide_eq_false (by omega)
    generalize manyT z l = m at *
    have w1 : IntKind.i64.wrap ((i : Int) + 1) = (i : Int) + 1 := by rw [IntKind.wrap_i64]; omega
    clear e K2
    unfold rowV at *
    go_enter Try.func67, Try.ntmps67
    go_wp2_with fail
    generalize w.alloc (.cells #[.string ⟨l.toArray⟩, .int .i64 (z : Int)] 48) = W0 at *
    refine wp_region_held_drew (S := (fun w' => w'.cell? ⟨w.heap.size, 0, none⟩ = some (.string ⟨l.toArray⟩) ∧ w'.cell? ⟨w.heap.size, 1, none⟩ = some (.int .i64 (z : Int)))) (by kernel_rfl) ?_ (fun hHeld => ?_)
    · refine ⟨?_, ?_⟩ <;> (first | with_reducible assumption | (rw [hby.cell (by (try dsimp only); omega)]; with_reducible assumption) | (go_keep; done))
    refine wpAnyH_takeD 0 (d := (some 5)) (v := ?_) rfl rfl (by kernel_rfl) (by kernel_rfl) (by kernel_rfl) (by kernel_rfl) (fun _ _ _ h => h) ?_ (by assumption) ?_
    rotate_left
    · intro ww hSw; (try dsimp only at hSw); first | (go_simp; done) | (go_simp; with_reducible rfl)
    simp only [Act.put, List.setIfInBounds_toArray, List.set_cons_zero, List.set_cons_succ]
    refine wpAnyH_takeD 1 (d := (some 6)) (v := ?_) rfl rfl (by kernel_rfl) (by kernel_rfl) (by kernel_rfl) (by kernel_rfl) (fun _ _ _ h => h) ?_ (by assumption) ?_
    rotate_left
    · intro ww hSw; (try dsimp only at hSw); first | (go_simp; done) | (go_simp; with_reducible rfl)
    simp only [Act.put, List.setIfInBounds_toArray, List.set_cons_zero, List.set_cons_succ]
    refine wpAnyH_takeD 2 (d := (some 7)) (v := ?_) rfl rfl (by kernel_rfl) (by kernel_rfl) (by kernel_rfl) (by kernel_rfl) (fun _ _ _ h => h) ?_ (by assumption) ?_
    rotate_left
    · intro ww hSw; (try dsimp only at hSw); first | (go_simp; done) | (go_simp; with_reducible rfl)
    simp only [Act.put, List.setIfInBounds_toArray, List.set_cons_zero, List.set_cons_succ]
    refine wpAnyH_ready (rs := [3]) (by kernel_rfl) (by simp) ?_
    refine AllReadyH.cons (o := _) rfl (fun K hK => ?_) AllReadyH.nil
    go_simp
    go_at_call 66
    refine (K1.out _).mono ?_
    clear K1
    rintro e wx ⟨rfl, hbx⟩
    have hby : Below W0.heap.size W0 wx := (Below.refl _ W0).drew.trans (hbx.mono (by simp))
    try go_simp
    refine hK.out _ _ ?_ (fun hHeld => ?_)
    · refine ⟨?_, ?_⟩ <;> (first | with_reducible assumption | (rw [hby.cell (by (try dsimp only); omega)]; with_reducible assumption) | (go_keep; done))
    clear hK K
    refine wpAnyH_takeD 4 (d := (some 9)) (v := ?_) rfl rfl (by kernel_rfl) (by kernel_rfl) (by kernel_rfl) (by kernel_rfl) (fun _ _ _ h => h) ?_ (by assumption) ?_
    rotate_left
    · intro ww hSw; (try dsimp only at hSw); first | (go_simp; done) | (go_simp; with_reducible rfl)
    simp only [Act.put, List.setIfInBounds_toArray, List.set_cons_zero, List.set_cons_succ]
    refine wpAnyH_takeD 5 (d := (some 10)) (v := ?_) rfl rfl (by kernel_rfl) (by kernel_rfl) (by kernel_rfl) (by kernel_rfl) (fun _ _ _ h => h) ?_ (by assumption) ?_
    rotate_left
    · intro ww hSw; (try dsimp only at hSw); first | (go_simp; done) | (go_simp; with_reducible rfl)
    simp only [Act.put, List.setIfInBounds_toArray, List.set_cons_zero, List.set_cons_succ]
    refine wpAnyH_skip 6 (d := (some 11)) (by kernel_rfl) (by kernel_rfl) (by kernel_rfl) (by kernel_rfl) (fun _ _ _ h => h) (by assumption) ?_
    simp only [Act.put, List.setIfInBounds_toArray, List.set_cons_zero, List.set_cons_succ]
    refine wpAnyH_skip 7 (d := (some 12)) (by kernel_rfl) (by kernel_rfl) (by kernel_rfl) (by kernel_rfl) (fun _ _ _ h => h) (by assumption) ?_
    simp only [Act.put, List.setIfInBounds_toArray, List.set_cons_zero, List.set_cons_succ]
    refine wpAnyH_skip 8 (d := (some 13)) (by kernel_rfl) (by kernel_rfl) (by kernel_rfl) (by kernel_rfl) (fun _ _ _ h => h) (by assumption) ?_
    simp only [Act.put, List.setIfInBounds_toArray, List.set_cons_zero, List.set_cons_succ]
    refine wpAnyH_skip 9 (d := (some 14)) (by kernel_rfl) (by kernel_rfl) (by kernel_rfl) (by kernel_rfl) (fun _ _ _ h => h) (by assumption) ?_
    simp only [Act.put, List.setIfInBounds_toArray, List.set_cons_zero, List.set_cons_succ]
    refine wpAnyH_skip 10 (d := (some 15)) (by kernel_rfl) (by kernel_rfl) (by kernel_rfl) (by kernel_rfl) (fun _ _ _ h => h) (by assumption) ?_
    simp only [Act.put, List.setIfInBounds_toArray, List.set_cons_zero, List.set_cons_succ]
    refine wpAnyH_skip 11 (d := (some 16)) (by kernel_rfl) (by kernel_rfl) (by kernel_rfl) (by kernel_rfl) (fun _ _ _ h => h) (by assumption) ?_
    simp only [Act.put, List.setIfInBounds_toArray, List.set_cons_zero, List.set_cons_succ]
    refine wpAnyH_skip 12 (d := (some 17)) (by kernel_rfl) (by kernel_rfl) (by kernel_rfl) (by kernel_rfl) (fun _ _ _ h => h) (by assumption) ?_
    simp only [Act.put, List.setIfInBounds_toArray, List.set_cons_zero, List.set_cons_succ]
    refine wpAnyH_skip 13 (d := (some 18)) (by kernel_rfl) (by kernel_rfl) (by kernel_rfl) (by kernel_rfl) (fun _ _ _ h => h) (by assumption) ?_
    simp only [Act.put, List.setIfInBounds_toArray, List.set_cons_zero, List.set_cons_succ]
    refine wpAnyH_takeD 14 (d := (some 19)) (v := ?_) rfl rfl (by kernel_rfl) (by kernel_rfl) (by kernel_rfl) (by kernel_rfl) (fun _ _ _ h => h) ?_ (by assumption) ?_
    rotate_left
    · intro ww hSw; (try dsimp only at hSw); first | (go_simp; done) | (go_simp; with_reducible rfl)
    simp only [Act.put, List.setIfInBounds_toArray, List.set_cons_zero, List.set_cons_succ]
    refine wpAnyH_takeD 15 (d := (some 4)) (v := ?_) rfl rfl (by kernel_rfl) (by kernel_rfl) (by kernel_rfl) (by kernel_rfl) (fun _ _ _ h => h) ?_ (by assumption) ?_
    rotate_left
    · intro ww hSw; (try dsimp only at hSw); first | (go_simp; done) | (go_simp; with_reducible rfl)
    simp only [Act.put, List.setIfInBounds_toArray, List.set_cons_zero, List.set_cons_succ]
    refine wpAnyH_done (by kernel_rfl) ?_ _
    go_wp2_with fail
    go_ret
    exact ⟨rfl, hb.trans (hby.mono hb.size)⟩
end Go.Proofs.Ytfkkppagbhllgaa
