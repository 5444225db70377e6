/-
  THE STEPS OF limewashref01.told, Of, Mul, Neg.
-/
import Derived.Test.YtcllghcplphijaaDoorWideRefA
import Derived.Test.YtcllghcplphijaaDoorWide
set_option linter.unusedVariables false
set_option linter.unusedSimpArgs false
set_option maxRecDepth 8000
namespace Go.Proofs.YtcllghcplphijaaDoor
open Go.RowKit

theorem rwide_any (B : Nat) (A : Option Addr) (n c : Nat) (x : Int) (b : Bool) (w : World) (h : NumAt w B A n c x) (hB : B ≤ w.heap.size) (hl : n ≤ 1000) (hbx : b = decide (x < 0)) :
    ∃ (p : Pt) (ok : Bool), (∀ W, Below w.heap.size w W → Calls Tryd.prog 35 #[.agg #[.bool b, .slice A n c]] W (PB W p ok)) ∧ (ok = true ∧ wTold x = (p, 0) ∧ p = wOf x ∨ ok = false ∧ wTold x = (⟨0, 0⟩, 4)) := by
  rcases Nat.lt_or_ge x.natAbs 5000000000000000000000000000000000000 with hx | hx
  · refine ⟨wOf x, wIs (wOf x), fun W hW => rwide_yes B A n c x b W (h.below hW hB) (Nat.le_trans hB hW.size) hl hx hbx, ?_⟩
    unfold wTold
    cases e : wIs (wOf x) with
    | true => exact .inl ⟨rfl, by simp, rfl⟩
    | false => exact .inr ⟨rfl, by simp⟩
  · refine ⟨⟨0, 0⟩, false, fun W hW => rwide_no B A n c x b W (h.below hW hB) (Nat.le_trans hB hW.size) hl hx, .inr ⟨rfl, ?_⟩⟩
    unfold wTold
    rw [wIs_far hx]; rfl

set_option maxHeartbeats 1600000 in
theorem rtold_b (B : Nat) (A : Option Addr) (n c : Nat) (x : Int) (b : Bool) (w : World) (h : NumAt w B A n c x) (hB : B ≤ w.heap.size) (hl : n ≤ 1000) (hbx : b = decide (x < 0)) :
    Calls Tryd.prog 40 #[.agg #[.bool b, .slice A n c]] w (PE w (wTold x)) := by
  obtain ⟨⟨u, v⟩, ok, HW, hc⟩ := rwide_any B A n c x b w h hB hl hbx
  have K1 := Lib.hid HW; clear HW h hbx
  obtain ⟨s1, s2, hb0, hz0⟩ := two_slots w [.bool b, .slice A n c] [.int .i64 0, .int .i64 0] #[.bool b, .slice A n c] #[.int .i64 0, .int .i64 0] 48 23 rfl rfl
  unfold PE
  unfold PB ptV at K1
  simp only at K1
  rcases hc with ⟨rfl, h2, _⟩ | ⟨rfl, h2⟩
  all_goals
    rw [h2]
    clear h2
    unfold ptV
    simp only
    go_enter Tryd.func40, Tryd.ntmps40
    go_wp2_with fail
    generalize (w.alloc (.cells #[.bool b, .slice A n c] 48)).alloc (.cells #[.int .i64 0, .int .i64 0] 23) = V at s1 s2 hb0 hz0 ⊢
    have HB := Lib.hid hb0; clear hb0
    have H2 := Lib.hid s2; clear s1 s2
    refine (K1.out V HB.out).mono ?_
    clear K1
    rintro e w1 ⟨rfl, bb⟩
    have H2 := Lib.hid (H2.out.below bb (by omega))
    have HB := Lib.hid (HB.out.trans (bb.mono HB.out.size))
    have hz1 := bb.size
    clear bb
    have l1 : w.heap.size + 1 < w1.heap.size := by omega
    have hb4 := (Below.refl w1.heap.size w1).alloc (Nat.le_refl _) (.cells #[.int .i64 u, .int .i64 v] 23)
    have c0 := H2.out.c 0 _ rfl
    have c1 := H2.out.c 1 _ rfl
    have f0 := H2.out.f 0
    have f1 := H2.out.f 1
    go_wp2_with fail
  · have S4 := (H2.out.set2 (.int .i64 u) (.int .i64 v)).below ((Below.refl (w1.heap.size) _).alloc (by simp) (.cells #[.int .i64 u, .int .i64 v] 23)) l1
    have a0 := S4.c 0 _ rfl
    have a1 := S4.c 1 _ rfl
    refine bodyPost_ret (v := .tuple #[.agg #[.int .i64 u, .int .i64 v], .int .i64 0]) (by simp [results, Tryd.results40, go_sem, a0, a1]) rfl ⟨rfl, ?_⟩
    exact ((HB.out.setCell (by simp only; omega) _).setCell (by simp only; omega) _).alloc (by simp; omega) _
  · have S4 := (H2.out.set2 (.int .i64 0) (.int .i64 0)).below ((Below.refl (w1.heap.size) _).alloc (by simp) (.cells #[.int .i64 u, .int .i64 v] 23)) l1
    have a0 := S4.c 0 _ rfl
    have a1 := S4.c 1 _ rfl
    refine bodyPost_ret (v := .tuple #[.agg #[.int .i64 0, .int .i64 0], .int .i64 4]) (by simp [results, Tryd.results40, go_sem, a0, a1]) rfl ⟨rfl, ?_⟩
    exact ((HB.out.setCell (by simp only; omega) _).setCell (by simp only; omega) _).alloc (by simp; omega) _

theorem i64_few {x : Int} (h : i64b x) : x.natAbs < 10 ^ 19 := by unfold i64b at h; omega

set_option maxHeartbeats 1600000 in
theorem rof_any (x : Int) (w : World) (hx : i64b x) : Calls Tryd.prog 27 #[.int .i64 x] w fun e w' => e = .returned (ptV (wOf x)) ∧ Below w.heap.size w w' := by
  obtain ⟨b, hb⟩ : ∃ b, b = decide (x < 0) := ⟨_, rfl⟩
  have K1 := Lib.hid (fun W => ofint_b x b W hx hb)
  have hok : wIs (wOf x) = true := by
    unfold i64b at hx
    rw [wIs_iff]; unfold wOf; simp only; omega
  have K2 : Hid (∀ (W : World) A n c, NumAt W W.heap.size A n c x → Calls Tryd.prog 35 #[.agg #[.bool b, .slice A n c]] W (PB W (wOf x) true)) := Lib.hid fun W A n c h => by
    have := rwide_yes W.heap.size A n c x b W h (Nat.le_refl _) (h.few64 hx) (by unfold i64b at hx; omega) hb
    rwa [hok] at this
  clear hok hx hb
  obtain ⟨⟨u, v⟩, hu⟩ : ∃ p, wOf x = p := ⟨_, rfl⟩
  rw [hu] at K2 ⊢
  clear hu
  unfold PB ptV at *
  simp only at K2 ⊢
  obtain ⟨s1, hb0, hz0⟩ := one_slot w [.int .i64 0, .int .i64 0] #[.int .i64 0, .int .i64 0] 23 rfl
  go_enter Tryd.func27, Tryd.ntmps27
  go_wp2_with fail
  generalize w.alloc (.cells #[.int .i64 0, .int .i64 0] 23) = V at s1 hb0 hz0 ⊢
  have HB := Lib.hid hb0; clear hb0
  have H2 := Lib.hid s1; clear s1
  refine (K1.out V).mono ?_
  clear K1
  rintro e w1 ⟨A, n, c, rfl, hN, hp, bb⟩
  have H2 := Lib.hid (H2.out.below bb (by omega))
  have HB := Lib.hid (HB.out.trans (bb.mono HB.out.size))
  have hz1 := bb.size
  have HN := Lib.hid hN
  clear bb hp hN
  go_wp2_with fail
  refine (K2.out w1 _ _ _ HN.out).mono ?_
  clear K2 HN
  rintro e w2 ⟨rfl, bb⟩
  have H2 := Lib.hid (H2.out.below bb (by omega))
  have HB := Lib.hid (HB.out.trans (bb.mono HB.out.size))
  have hz2 := bb.size
  clear bb
  have l1 : w.heap.size < w2.heap.size := by omega
  have c0 := H2.out.c 0 _ rfl
  have c1 := H2.out.c 1 _ rfl
  have f0 := H2.out.f 0
  have f1 := H2.out.f 1
  go_wp2_with fail
  have S4 := (H2.out.set2 (.int .i64 u) (.int .i64 v)).below ((Below.refl (w2.heap.size) _).alloc (by simp) (.cells #[.int .i64 u, .int .i64 v] 23)) l1
  have a0 := S4.c 0 _ rfl
  have a1 := S4.c 1 _ rfl
  refine bodyPost_ret (v := .agg #[.int .i64 u, .int .i64 v]) (by simp [results, Tryd.results27, go_sem, a0, a1]) rfl ⟨rfl, ?_⟩
  exact ((HB.out.setCell (by simp only; omega) _).setCell (by simp only; omega) _).alloc (by simp; omega) _

/-- what told does to a Num that lies anywhere -/
theorem told_b (x : Int) (b : Bool) (hbx : b = decide (x < 0)) (hf : x.natAbs < 10 ^ 100) (W : World) (A : Option Addr) (n c : Nat) (h : NumAt W W.heap.size A n c x) :
    Calls Tryd.prog 40 #[.agg #[.bool b, .slice A n c]] W (PE W (wTold x)) := rtold_b W.heap.size A n c x b W h (Nat.le_refl _) (h.few hf) hbx

theorem rmul_no {a b : Int} (w : World) (h : a < -1000000000000000000 ∨ -1000000000000000000 ≤ a ∧ 1000000000000000000 < a ∨ (-1000000000000000000 ≤ a ∧ a ≤ 1000000000000000000) ∧ b < -1000000000000000000 ∨ (-1000000000000000000 ≤ a ∧ a ≤ 1000000000000000000) ∧ -1000000000000000000 ≤ b ∧ 1000000000000000000 < b) :
    Calls Tryd.prog 21 #[.int .i64 a, .int .i64 b] w (PE w (wMul a b)) := by
  have e : wMul a b = (⟨0, 0⟩, 2) := by unfold wMul; rw [if_neg (by omega)]
  rw [e]
  unfold PE ptV
  simp only
  obtain ⟨s1, hb0, hz0⟩ := one_slot w [.int .i64 0, .int .i64 0] #[.int .i64 0, .int .i64 0] 23 rfl
  have HB := Lib.hid hb0; clear hb0
  have a0 := Lib.hid (s1.c 0 _ rfl)
  have a1 := Lib.hid (s1.c 1 _ rfl)
  clear s1 e
  rcases h with h | ⟨h1, h⟩ | ⟨⟨h1, h2⟩, h⟩ | ⟨⟨h1, h2⟩, h3, h⟩
  case' inl => have d1 : decide (a < -1000000000000000000) = true := decide_eq_true h
  case' inr.inl =>
    have d1 : decide (a < -1000000000000000000) = false := decide_eq_false (by omega)
    have d2 : decide (1000000000000000000 < a) = true := decide_eq_true h
  case' inr.inr.inl =>
    have d1 : decide (a < -1000000000000000000) = false := decide_eq_false (by omega)
    have d2 : decide (1000000000000000000 < a) = false := decide_eq_false (by omega)
    have d3 : decide (b < -1000000000000000000) = true := decide_eq_true h
  case' inr.inr.inr =>
    have d1 : decide (a < -1000000000000000000) = false := decide_eq_false (by omega)
    have d2 : decide (1000000000000000000 < a) = false := decide_eq_false (by omega)
    have d3 : decide (b < -1000000000000000000) = false := decide_eq_false (by omega)
    have d4 : decide (1000000000000000000 < b) = true := decide_eq_true h
  all_goals
    go_enter Tryd.func21, Tryd.ntmps21
    go_wp2_with fail
    exact bodyPost_ret (v := .tuple #[.agg #[.int .i64 0, .int .i64 0], .int .i64 2]) (by simp [results, Tryd.results21, go_sem, a0.out, a1.out]) rfl ⟨rfl, HB.out⟩
end Go.Proofs.YtcllghcplphijaaDoor
