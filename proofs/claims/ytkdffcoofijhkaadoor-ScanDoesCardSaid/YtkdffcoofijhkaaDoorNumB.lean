/-
  OfInt, Times, Sum of limewashref01, the result's side told by name.
-/
import Derived.Test.YtkdffcoofijhkaaDoorNumWalkT
import Derived.Test.YtkdffcoofijhkaaDoorGeo
set_option linter.unusedVariables false
set_option linter.unusedSimpArgs false
set_option maxRecDepth 8000
namespace Go.Proofs.YtkdffcoofijhkaaDoor
open Go.RowKit

/-- a Num is handed back, its side told -/
def NumB (w : World) (b : Bool) (x : Int) (e : Ending) (w' : World) : Prop :=
  ∃ A n c, e = .returned (.agg #[.bool b, .slice A n c]) ∧ NumAt w' w'.heap.size A n c x ∧ (∀ ad, A = some ad → 0 < n → w.heap.size ≤ ad.block) ∧ Below w.heap.size w w'
theorem NumRes.toB {w : World} {x : Int} {b : Bool} (hb : b = decide (x < 0)) : ∀ e w', NumRes w 0 x e w' → NumB w b x e w' := by
  rintro e w' ⟨A, n, c, rfl, h1, h2, h3⟩
  exact ⟨A, n, c, by rw [hb], h1, fun ad e h0 => (h2 ad e h0).elim (fun h => absurd h (Nat.not_lt_zero _)) id, h3⟩
theorem NumB.toRes {w : World} {x : Int} {b : Bool} (hb : b = decide (x < 0)) {e w'} (h : NumB w b x e w') : NumRes w 0 x e w' := by
  obtain ⟨A, n, c, rfl, h1, h2, h3⟩ := h
  exact ⟨A, n, c, by rw [hb], h1, fun ad e h0 => .inr (h2 ad e h0), h3⟩

theorem ofint_b (x : Int) (b : Bool) (w : World) (hx : i64b x) (hb : b = decide (x < 0)) : Calls Tryd.prog 47 #[.int .i64 x] w (NumB w b x) :=
  (ofint_any x 0 w hx).mono (NumRes.toB hb)
theorem times_b (A1 A2 : Option Addr) (n1 c1 n2 c2 : Nat) (x y : Int) (b1 b2 b : Bool) (w : World) (h1 : NumAt w w.heap.size A1 n1 c1 x) (h2 : NumAt w w.heap.size A2 n2 c2 y) (hl1 : n1 ≤ 1000) (hl2 : n2 ≤ 1000) (e1 : b1 = decide (x < 0)) (e2 : b2 = decide (y < 0)) (eb : b = decide (x * y < 0)) :
    Calls Tryd.prog 49 #[.agg #[.bool b1, .slice A1 n1 c1], .agg #[.bool b2, .slice A2 n2 c2]] w (NumB w b (x * y)) := by
  subst e1; subst e2
  exact (times_any _ _ A1 A2 n1 c1 n2 c2 x y w h1 h2 (Nat.le_refl _) (Nat.le_refl _) hl1 hl2).mono (NumRes.toB eb)
theorem sum_b (A1 A2 : Option Addr) (n1 c1 n2 c2 : Nat) (x y : Int) (b1 b2 b : Bool) (w : World) (h1 : NumAt w w.heap.size A1 n1 c1 x) (h2 : NumAt w w.heap.size A2 n2 c2 y) (hl1 : n1 ≤ 1000) (hl2 : n2 ≤ 1000) (e1 : b1 = decide (x < 0)) (e2 : b2 = decide (y < 0)) (eb : b = decide (x + y < 0)) :
    Calls Tryd.prog 48 #[.agg #[.bool b1, .slice A1 n1 c1], .agg #[.bool b2, .slice A2 n2 c2]] w (NumB w b (x + y)) := by
  subst e1; subst e2
  exact (sum_any _ _ 0 A1 A2 n1 c1 n2 c2 x y w h1 h2 (Nat.le_refl _) (Nat.le_refl _) hl1 hl2).mono (NumRes.toB eb)
theorem NumAt.few {w : World} {B n c : Nat} {A : Option Addr} {x : Int} (h : NumAt w B A n c x) (hx : x.natAbs < 10 ^ 100) : n ≤ 1000 := Nat.le_trans (h.le hx) (by decide)
theorem NumAt.few64 {w : World} {B n c : Nat} {A : Option Addr} {x : Int} (h : NumAt w B A n c x) (hx : i64b x) : n ≤ 1000 := by
  unfold i64b at hx
  exact h.few (Nat.lt_of_lt_of_le (show x.natAbs < 10 ^ 19 by omega) (Nat.pow_le_pow_right (by decide) (by decide)))

end Go.Proofs.YtkdffcoofijhkaaDoor
