/-
  THE STEPS OF wide.Cmp.
-/
import Derived.Test.YtcllghcplphijaaDoorWideWalkC
set_option linter.unusedVariables false
set_option linter.unusedSimpArgs false
namespace Go.Proofs.YtcllghcplphijaaDoor
open Go.RowKit

theorem wcmp_or (a b : Pt) : wCmp a b = if a = b then 0 else orS (cmpS a.x b.x) (cmpS a.y b.y) := by
  unfold wCmp orS cmpS
  split
  · rfl
  · rename_i hne
    by_cases h1 : a.x < b.x
    · simp [h1]
    · by_cases h2 : b.x < a.x
      · simp [h1, h2]
      · have e : a.x = b.x := by omega
        have e2 : a.y ≠ b.y := fun h => hne (by cases a; cases b; simp_all)
        simp only [h1, h2, if_false, if_true]
        by_cases h3 : a.y < b.y
        · simp [h3]
        · rw [if_neg h3, if_neg h3, if_pos (by omega)]
theorem cmpS_i64 (x y : Int) : -9223372036854775808 ≤ cmpS x y ∧ cmpS x y ≤ 9223372036854775807 := by unfold cmpS; split <;> (try split) <;> omega

theorem wcmp_any (a b : Pt) (w : World) (ha : a.b) (hb : b.b) :
    Calls Tryd.prog 14 #[ptV a, ptV b] w fun e w' => e = .returned (.int .i64 (wCmp a b)) ∧ Below w.heap.size w w' := by
  obtain ⟨x, y⟩ := a
  obtain ⟨p, q⟩ := b
  rw [wcmp_or]
  unfold ptV
  simp only
  obtain ⟨s1, s2, hb, hz⟩ := two_slots w [.int .i64 x, .int .i64 y] [.int .i64 p, .int .i64 q] #[.int .i64 x, .int .i64 y] #[.int .i64 p, .int .i64 q] 23 23 rfl rfl
  have H1 := Lib.hid (fun W => compare_any x p W)
  have H2 := Lib.hid (fun W => compare_any y q W)
  have b1 := cmpS_i64 x p
  have b2 := cmpS_i64 y q
  have H3 := Lib.hid (fun (W : World) (B : Nat) (A : Option Addr) (c : Nat) (h : Ints W B A 2 [cmpS x p, cmpS y q]) => or_any (cmpS x p) (cmpS y q) B A c W h)
  generalize cmpS x p = k at *
  generalize cmpS y q = l at *
  by_cases he : (⟨x, y⟩ : Pt) = ⟨p, q⟩
  · rw [if_pos he]
    injection he with e1 e2
    subst e1; subst e2
    clear H1 H2 H3 b1 b2
    go_enter Tryd.func14, Tryd.ntmps14
    go_wp2_with fail
    all_goals
      go_ret
      exact ⟨rfl, hb⟩
  · rw [if_neg he]
    generalize orS k l = o at *
    by_cases hx : x = p
    · subst hx
      have hy : ¬ y = q := fun h => he (by rw [h])
      clear he
      go_enter Tryd.func14, Tryd.ntmps14
      go_wp2_with fail
      all_goals first
        | contradiction
        | skip
      generalize hW : (w.alloc (.cells #[.int .i64 x, .int .i64 y] 23)).alloc (.cells #[.int .i64 x, .int .i64 q] 23) = W at s1 s2 hb hz ⊢
      have HB := Lib.hid hb
      clear hb hW
      have c0 := s1.c 0 _ rfl
      have c1 := s1.c 1 _ rfl
      have d0 := s2.c 0 _ rfl
      have d1 := s2.c 1 _ rfl
      clear s1 s2
      have hI : I64 [k, l] := fun d hd => by simp at hd; rcases hd with rfl | rfl <;> omega
      have HL : Hid (Ints (W.alloc (.cells #[.int .i64 k, .int .i64 l] 3)) (w.heap.size + 3) (some ⟨w.heap.size + 2, 0, none⟩) 2 [k, l]) := Lib.hid (by
        have := Ints.laid [k, l] #[.int .i64 k, .int .i64 l] rfl 3 hI (by simp) W (w.heap.size + 3) (by omega)
        rw [hz] at this
        exact this)
      clear hI
      go_region_held3 (fun w' => w'.cell? ⟨w.heap.size, 0, none⟩ = some (.int .i64 x) ∧ w'.cell? ⟨w.heap.size, 1, none⟩ = some (.int .i64 y) ∧ w'.cell? ⟨w.heap.size + 1, 0, none⟩ = some (.int .i64 x) ∧ w'.cell? ⟨w.heap.size + 1, 1, none⟩ = some (.int .i64 q))
        (refine ⟨?_, ?_, ?_, ?_⟩ <;> (first | with_reducible assumption | (rw [hby.cell (by (try dsimp only); omega)]; with_reducible assumption) | (rw [World.cell?_alloc_lt _ _ _ (by (try dsimp only); simp; omega)]; with_reducible assumption) | (go_keep; done)))
        (first
          | (go_at_call_of 37 (Value.int IntKind.i64 x); refine (H1.out _).mono ?_; clear H1; rintro e wx ⟨he, hw⟩; subst he; subst hw)
          | (go_at_call_of 37 (Value.int IntKind.i64 y); refine (H2.out _).mono ?_; clear H2; rintro e wx ⟨he, hw⟩; subst he; subst hw)
          | (go_at_call 36; refine (H3.out _ (w.heap.size + 3) (some ⟨w.heap.size + 2, 0, none⟩) 2 ⟨HL.out.rd.drew, HL.out.i64, HL.out.len⟩).mono ?_; clear H3; rintro e wx ⟨rfl, hbx⟩; have hby : Below W.heap.size W wx := ((Below.refl _ W).alloc (Nat.le_refl _) _).drew.trans (hbx.mono (by simp))))
      all_goals
        go_wp2_with fail
        go_ret
        exact ⟨rfl, HB.out.trans (hby.mono (by omega))⟩
    · clear he
      go_enter Tryd.func14, Tryd.ntmps14
      go_wp2_with fail
      all_goals first
        | contradiction
        | skip
      generalize hW : (w.alloc (.cells #[.int .i64 x, .int .i64 y] 23)).alloc (.cells #[.int .i64 p, .int .i64 q] 23) = W at s1 s2 hb hz ⊢
      have HB := Lib.hid hb
      clear hb hW
      have c0 := s1.c 0 _ rfl
      have c1 := s1.c 1 _ rfl
      have d0 := s2.c 0 _ rfl
      have d1 := s2.c 1 _ rfl
      clear s1 s2
      have hI : I64 [k, l] := fun d hd => by simp at hd; rcases hd with rfl | rfl <;> omega
      have HL : Hid (Ints (W.alloc (.cells #[.int .i64 k, .int .i64 l] 3)) (w.heap.size + 3) (some ⟨w.heap.size + 2, 0, none⟩) 2 [k, l]) := Lib.hid (by
        have := Ints.laid [k, l] #[.int .i64 k, .int .i64 l] rfl 3 hI (by simp) W (w.heap.size + 3) (by omega)
        rw [hz] at this
        exact this)
      clear hI
      go_region_held3 (fun w' => w'.cell? ⟨w.heap.size, 0, none⟩ = some (.int .i64 x) ∧ w'.cell? ⟨w.heap.size, 1, none⟩ = some (.int .i64 y) ∧ w'.cell? ⟨w.heap.size + 1, 0, none⟩ = some (.int .i64 p) ∧ w'.cell? ⟨w.heap.size + 1, 1, none⟩ = some (.int .i64 q))
        (refine ⟨?_, ?_, ?_, ?_⟩ <;> (first | with_reducible assumption | (rw [hby.cell (by (try dsimp only); omega)]; with_reducible assumption) | (rw [World.cell?_alloc_lt _ _ _ (by (try dsimp only); simp; omega)]; with_reducible assumption) | (go_keep; done)))
        (first
          | (go_at_call_of 37 (Value.int IntKind.i64 x); refine (H1.out _).mono ?_; clear H1; rintro e wx ⟨he, hw⟩; subst he; subst hw)
          | (go_at_call_of 37 (Value.int IntKind.i64 y); refine (H2.out _).mono ?_; clear H2; rintro e wx ⟨he, hw⟩; subst he; subst hw)
          | (go_at_call 36; refine (H3.out _ (w.heap.size + 3) (some ⟨w.heap.size + 2, 0, none⟩) 2 ⟨HL.out.rd.drew, HL.out.i64, HL.out.len⟩).mono ?_; clear H3; rintro e wx ⟨rfl, hbx⟩; have hby : Below W.heap.size W wx := ((Below.refl _ W).alloc (Nat.le_refl _) _).drew.trans (hbx.mono (by simp))))
      all_goals
        go_wp2_with fail
        go_ret
        exact ⟨rfl, HB.out.trans (hby.mono (by omega))⟩
end Go.Proofs.YtcllghcplphijaaDoor
