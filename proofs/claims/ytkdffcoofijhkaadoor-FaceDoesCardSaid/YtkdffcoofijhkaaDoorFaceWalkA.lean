/-
  THE STEPS OF face.place, Place, must.
-/
import Derived.Test.YtkdffcoofijhkaaDoorFaceS
import Derived.Test.YtkdffcoofijhkaaDoorScanWalkG
set_option linter.unusedVariables false
set_option linter.unusedSimpArgs false
set_option maxRecDepth 8000
namespace Go.Proofs.YtkdffcoofijhkaaDoor
open Go.RowKit

/-- what place hands back -/
def PlaceRes (n many : Int) (w : World) (e : Ending) (w' : World) : Prop :=
  ∃ v b, e = .returned (.tuple #[.int .i64 v, .bool b]) ∧ w = w' ∧ (0 < many → (b = true ↔ (1 ≤ n ∧ n ≤ many) ∨ (n ≤ -1 ∧ -n ≤ many)) ∧ (b = true → v = if 1 ≤ n then n - 1 else many + n))
theorem place_any (n many : Int) (w : World) (hn : -9999999 ≤ n ∧ n ≤ 9999999) (hm : i64b many) : Calls Tryd.prog 58 #[.int .i64 n, .int .i64 many] w (PlaceRes n many w) := by
  unfold i64b at hm
  have FIN : Hid (∀ v b, (0 < many → (b = true ↔ (1 ≤ n ∧ n ≤ many) ∨ (n ≤ -1 ∧ -n ≤ many)) ∧ (b = true → v = if 1 ≤ n then n - 1 else many + n)) → PlaceRes n many w (.returned (.tuple #[.int .i64 v, .bool b])) w) := Lib.hid fun v b h => ⟨v, b, rfl, rfl, h⟩
  generalize hQ : PlaceRes n many w = Qp at FIN ⊢
  clear hQ
  have HM := Lib.hid hm; clear hm
  by_cases h : n < 0
  · have t0 : decide (n < 0) = true := decide_eq_true h
    have HN := Lib.hid hn; clear hn
    have HL := Lib.hid h; clear h
    obtain ⟨X, hX⟩ : ∃ X, X = wrap64 (n + wrap64 (many + 1)) := ⟨_, rfl⟩
    have HX := Lib.hid hX; clear hX
    by_cases h1 : 1 ≤ X
    · have t1 : decide (1 ≤ wrap64 (n + wrap64 (many + 1))) = true := decide_eq_true (by rw [← HX.out]; exact h1)
      go_enter Tryd.func58, Tryd.ntmps58
      go_wp2_with fail
      refine FIN.out _ _ fun h0 => ?_
      have := HN.out
      have := HM.out
      have := HL.out
      have hx := HX.out
      rw [← hx]
      unfold wrap64 at hx ⊢
      rw [if_neg (by omega), decide_eq_true_iff]
      constructor
      · constructor <;> intro <;> omega
      · intro; omega
    · have t1 : decide (1 ≤ wrap64 (n + wrap64 (many + 1))) = false := decide_eq_false (by rw [← HX.out]; exact h1)
      go_enter Tryd.func58, Tryd.ntmps58
      go_wp2_with fail
      refine FIN.out _ _ fun h0 => ?_
      have := HN.out
      have := HM.out
      have := HL.out
      have hx := HX.out
      unfold wrap64 at hx ⊢
      rw [if_neg (by omega)]
      constructor
      · constructor
        · intro h; cases h
        · intro; omega
      · intro h; cases h
  · have t0 : decide (n < 0) = false := decide_eq_false h
    obtain ⟨hn1, hn2⟩ := hn
    by_cases h1 : 1 ≤ n
    · have t1 : decide (1 ≤ n) = true := decide_eq_true h1
      go_enter Tryd.func58, Tryd.ntmps58
      go_wp2_with fail
      refine FIN.out _ _ fun h0 => ?_
      rw [if_pos h1, decide_eq_true_iff]
      constructor
      · constructor <;> intro <;> omega
      · intro; rfl
    · have t1 : decide (1 ≤ n) = false := decide_eq_false h1
      go_enter Tryd.func58, Tryd.ntmps58
      go_wp2_with fail
      refine FIN.out _ _ fun h0 => ?_
      constructor
      · constructor
        · intro h; cases h
        · intro; omega
      · intro h; cases h

theorem wholeN_bd (s : List UInt8) (h : wholeOk s = true) : -9999999 ≤ wholeN s ∧ wholeN s ≤ 9999999 := (whole_is s h).2
set_option maxHeartbeats 800000 in
theorem place2_any (l : List UInt8) (many : Int) (w : World) (hl : l.length ≤ 100000) (hm : i64b many) (hE : Env w) : Calls Tryd.prog 30 #[.string ⟨l.toArray⟩, .int .i64 many] w (NE2 w (placeR l many)) := by
  have K1 := Lib.hid (fun W hW => whole_any l W hl hW)
  have HE := Lib.hid hE; clear hE
  cases h : wholeOk l with
  | false =>
    have e : placeR l many = (0, 6) := by unfold placeR; rw [h]; rfl
    rw [e]
    rw [whole_no l h] at K1
    unfold NE2 at *
    clear h e
    go_enter Tryd.func30, Tryd.ntmps30
    go_wp2_with fail
    refine (K1.out _ HE.out).mono ?_
    clear K1
    rintro e w1 ⟨rfl, hb1⟩
    have HB := Lib.hid hb1; clear hb1
    go_wp2_with fail
    go_ret2
    exact ⟨rfl, HB.out⟩
  | true =>
    have hb := wholeN_bd l h
    have e0 : wholeS l = (wholeN l, 0) := by unfold wholeS; rw [h]; rfl
    have e : placeR l many = if 1 ≤ wholeN l ∧ wholeN l ≤ many then (wholeN l - 1, 0) else if wholeN l ≤ -1 ∧ -wholeN l ≤ many then (many + wholeN l, 0) else (0, 7) := by unfold placeR; rw [h]; rfl
    rw [e]
    rw [e0] at K1
    clear e e0 h
    generalize wholeN l = n at *
    have K2 := Lib.hid (fun W => place_any n many W hb hm)
    have HN := Lib.hid hb; clear hb
    have FIN : Hid (∀ w', Below w.heap.size w w' → ¬ (0 < many ∧ ((1 ≤ n ∧ n ≤ many) ∨ (n ≤ -1 ∧ -n ≤ many))) → NE2 w (if 1 ≤ n ∧ n ≤ many then (n - 1, 0) else if n ≤ -1 ∧ -n ≤ many then (many + n, 0) else (0, 7)) (.returned (.tuple #[.int .i64 0, .int .i64 7])) w') := Lib.hid fun w' hb h => by
      rw [if_neg (fun h9 => h ⟨by omega, .inl h9⟩), if_neg (fun h9 => h ⟨by omega, .inr h9⟩)]; exact ⟨rfl, hb⟩
    have FIN2 : Hid (∀ v w', Below w.heap.size w w' → ((1 ≤ n ∧ n ≤ many) ∨ (n ≤ -1 ∧ -n ≤ many)) → v = (if 1 ≤ n then n - 1 else many + n) → NE2 w (if 1 ≤ n ∧ n ≤ many then (n - 1, 0) else if n ≤ -1 ∧ -n ≤ many then (many + n, 0) else (0, 7)) (.returned (.tuple #[.int .i64 v, .int .i64 0])) w') := Lib.hid fun v w' hb h hv => by
      rcases h with h | h
      · rw [if_pos h]; rw [if_pos h.1] at hv; rw [hv]; exact ⟨rfl, hb⟩
      · rw [if_neg (by omega), if_pos h]; rw [if_neg (by omega)] at hv; rw [hv]; exact ⟨rfl, hb⟩
    generalize hQ : NE2 w (if 1 ≤ n ∧ n ≤ many then (n - 1, 0) else if n ≤ -1 ∧ -n ≤ many then (many + n, 0) else (0, 7)) = Qp at FIN FIN2 ⊢
    clear hQ
    have HM := Lib.hid hm; clear hm
    unfold NE2 at K1
    go_enter Tryd.func30, Tryd.ntmps30
    go_wp2_with fail
    refine (K1.out _ HE.out).mono ?_
    clear K1
    rintro e w1 ⟨rfl, hb1⟩
    have HB := Lib.hid hb1; clear hb1
    go_wp2_with fail
    refine (K2.out _).mono ?_
    clear K2
    rintro e w2 ⟨v, b, rfl, rfl, hr⟩
    have HR := Lib.hid hr; clear hr
    by_cases h0 : 0 < many
    · have t0 : decide (0 < many) = true := decide_eq_true h0
      obtain ⟨r1, r2⟩ := HR.out h0
      cases b with
      | true =>
        have R1 := Lib.hid (r1.1 rfl)
        have R2 := Lib.hid (r2 rfl)
        clear r1 r2 h0
        go_wp2_with fail
        first | exact FIN2.out _ _ HB.out R1.out R2.out | (go_ret2; exact FIN2.out _ _ HB.out R1.out R2.out)
      | false =>
        have R1 : Hid (¬ ((1 ≤ n ∧ n ≤ many) ∨ (n ≤ -1 ∧ -n ≤ many))) := Lib.hid (fun h => Bool.false_ne_true (r1.2 h))
        clear r1 r2 h0
        go_wp2_with fail
        first | exact FIN.out _ HB.out (fun h => R1.out h.2) | (go_ret2; exact FIN.out _ HB.out (fun h => R1.out h.2))
    · have t0 : decide (0 < many) = false := decide_eq_false h0
      have H0 := Lib.hid h0; clear h0
      cases b with
      | true =>
        go_wp2_with fail
        first | exact FIN.out _ HB.out (fun h => by have := H0.out; omega) | (go_ret2; exact FIN.out _ HB.out (fun h => by have := H0.out; omega))
      | false =>
        go_wp2_with fail
        first | exact FIN.out _ HB.out (fun h => by have := H0.out; omega) | (go_ret2; exact FIN.out _ HB.out (fun h => by have := H0.out; omega))

/-- an error is thrown -/
def Thrown (z : Int) : Ending := .panicked [{ v := .iface 32 (.int .i64 z), recovered := false }]
theorem must_ok (w : World) : Calls Tryd.prog 62 #[.int .i64 0] w fun e w' => e = .returned (.tuple #[]) ∧ w = w' := by
  go_enter Tryd.func62, Tryd.ntmps62
  go_wp2_with fail
  go_end0
  exact ⟨rfl, rfl⟩
theorem must_bad (z : Int) (w : World) (h : z ≠ 0) : Calls Tryd.prog 62 #[.int .i64 z] w fun e w' => e = Thrown z ∧ w = w' := by
  have t0 : (z != 0) = true := by simpa using h
  clear h
  unfold Thrown
  go_enter Tryd.func62, Tryd.ntmps62
  go_wp2_with fail
  exact ⟨rfl, rfl, rfl⟩
end Go.Proofs.YtkdffcoofijhkaaDoor
