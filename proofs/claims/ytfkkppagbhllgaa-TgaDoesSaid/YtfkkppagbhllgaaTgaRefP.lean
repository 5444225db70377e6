/-
  HOW A REFERENCE FINDS THE PIECES, in plain words. No program in sight.
-/
import Derived.Test.YtfkkppagbhllgaaTgaS
set_option linter.unusedVariables false
set_option linter.unusedSimpArgs false
namespace Go.Proofs.Ytfkkppagbhllgaa

/-- how far a run is counted -/
structure RunSt (z : Nat) (s : List UInt8) (f r : Nat) : Prop where
  r1 : 1 ≤ r
  r2 : f + r ≤ manyT z s
  r3 : r ≤ 128
  all : ∀ j, j < r → colT z s (f + j) = colT z s f
  yes : 1 < r → sameT z s f = true
  pend : sameT z s f = true → pendT z s f = endT (okT z s true) (limT z s f - (f + r)) (f + r)
theorem RunSt.start {z : Nat} {s : List UInt8} {f : Nat} (h : f < manyT z s) : RunSt z s f 1 where
  r1 := Nat.le_refl _
  r2 := h
  r3 := by omega
  all := fun j hj => by obtain rfl : j = 0 := by omega
                        rfl
  yes := fun h => by omega
  pend := fun h => by unfold pendT; rw [h]
theorem RunSt.step {z : Nat} {s : List UInt8} {f r : Nat} (h : RunSt z s f r) (h1 : f + r < manyT z s) (h2 : r < 128) (h3 : colT z s (f + r) = colT z s f) : RunSt z s f (r + 1) where
  r1 := by omega
  r2 := by omega
  r3 := by omega
  all := fun j hj => by
    rcases Nat.lt_or_ge j r with hj2 | hj2
    · exact h.all j hj2
    · obtain rfl : j = r := by omega
      exact h3
  yes := fun _ => by
    rcases Nat.lt_or_ge 1 r with h5 | h5
    · exact h.yes h5
    · obtain rfl : r = 1 := by have := h.r1; omega
      unfold sameT
      rw [decide_eq_true h1, h3]; simp
  pend := fun hs => by
    rw [h.pend hs]
    refine endT_step (by unfold limT; omega) ?_
    unfold okT sameT
    have h0 := h.r1
    have e : f + r - 1 + 1 = f + r := by omega
    have e2 : f + r - 1 = f + (r - 1) := by omega
    rw [if_pos rfl, e, decide_eq_true h1, h3, e2, h.all (r - 1) (by omega)]; simp
theorem RunSt.stop {z : Nat} {s : List UInt8} {f r : Nat} (h : RunSt z s f r) (h1 : ¬ (f + r < manyT z s ∧ r < 128 ∧ colT z s (f + r) = colT z s f)) :
    (r = 1 → sameT z s f = false) ∧ (1 < r → sameT z s f = true ∧ pendT z s f = f + r) := by
  refine ⟨fun e => ?_, fun h5 => ⟨h.yes h5, ?_⟩⟩
  · subst e
    cases hs : sameT z s f with
    | false => rfl
    | true => exact absurd ⟨sameT_lt hs, by omega, (sameT_eq hs).symm⟩ h1
  · rw [h.pend (h.yes h5)]
    refine endT_off fun hl => ?_
    have hl2 : f + r < manyT z s ∧ r < 128 := by unfold limT at hl; omega
    unfold okT sameT
    have h0 := h.r1
    have e : f + r - 1 + 1 = f + r := by omega
    have e2 : f + r - 1 = f + (r - 1) := by omega
    rw [if_pos rfl, e, e2, h.all (r - 1) (by omega)]
    have : (colT z s f == colT z s (f + r)) = false := by
      rw [beq_eq_false_iff_ne]
      exact fun e => h1 ⟨hl2.1, hl2.2, e.symm⟩
    rw [this, Bool.and_false]
/-- how far what differs is counted -/
structure LitSt (z : Nat) (s : List UInt8) (f r : Nat) : Prop where
  r1 : 1 ≤ r
  r2 : f + r ≤ manyT z s
  r3 : r ≤ 128
  pend : pendT z s f = endT (okT z s false) (limT z s f - (f + r)) (f + r)
theorem LitSt.start {z : Nat} {s : List UInt8} {f : Nat} (h : f < manyT z s) (hs : sameT z s f = false) : LitSt z s f 1 := ⟨Nat.le_refl _, h, by omega, by unfold pendT; rw [hs]⟩
theorem LitSt.step {z : Nat} {s : List UInt8} {f r : Nat} (h : LitSt z s f r) (h1 : f + r < manyT z s) (h2 : r < 128) (h3 : sameT z s (f + r) = false) : LitSt z s f (r + 1) := by
  refine ⟨by omega, by omega, by omega, ?_⟩
  rw [h.pend]
  refine endT_step (by unfold limT; omega) ?_
  unfold okT
  rw [if_neg (by simp), h3]; rfl
theorem LitSt.stop {z : Nat} {s : List UInt8} {f r : Nat} (h : LitSt z s f r) (h1 : ¬ (f + r < manyT z s ∧ r < 128 ∧ sameT z s (f + r) = false)) : pendT z s f = f + r := by
  rw [h.pend]
  refine endT_off fun hl => ?_
  have hl2 : f + r < manyT z s ∧ r < 128 := by unfold limT at hl; omega
  unfold okT
  rw [if_neg (by simp)]
  cases hs : sameT z s (f + r) with
  | true => rfl
  | false => exact absurd ⟨hl2.1, hl2.2, hs⟩ h1
/-- how far the packing stands -/
def PkSt (z : Nat) (s : List UInt8) (f : Nat) (acc : List UInt8) : Prop := f ≤ manyT z s ∧ ∃ k, manyT z s - f ≤ k ∧ acc ++ packFrom z s k f = packT z s
theorem PkSt.start (z : Nat) (s : List UInt8) : PkSt z s 0 [] := ⟨Nat.zero_le _, manyT z s, by omega, rfl⟩
theorem PkSt.step {z : Nat} {s acc : List UInt8} {f : Nat} (h : PkSt z s f acc) (hf : f < manyT z s) : PkSt z s (pendT z s f) (acc ++ pieceB z s (f, pendT z s f, sameT z s f)) := by
  obtain ⟨h1, k, hk, e⟩ := h
  obtain ⟨p1, p2, p3⟩ := pendT_b hf
  cases k with
  | zero => omega
  | succ k =>
    rw [packFrom_cons hf, ← List.append_assoc] at e
    exact ⟨p2, k, by omega, e⟩
theorem PkSt.done {z : Nat} {s acc : List UInt8} {f : Nat} (h : PkSt z s f acc) (hf : ¬ f < manyT z s) : acc = packT z s := by
  obtain ⟨h1, k, hk, e⟩ := h
  rw [packFrom_done hf, List.append_nil] at e
  exact e
theorem PkSt.le {z : Nat} {s acc : List UInt8} {f : Nat} (h : PkSt z s f acc) : acc.length ≤ (packT z s).length := by
  obtain ⟨h1, k, hk, e⟩ := h
  rw [← e, List.length_append]; omega
theorem piece_run {z : Nat} {s : List UInt8} {f r : Nat} (h : sameT z s f = true) (hp : pendT z s f = f + r) (h1 : 1 ≤ r) : pieceB z s (f, pendT z s f, sameT z s f) = UInt8.ofNat (127 + r) :: colT z s f := by
  unfold pieceB
  rw [h, hp]
  dsimp only
  rw [if_pos rfl, show 128 + (f + r - f - 1) = 127 + r by omega]
theorem piece_lit {z : Nat} {s : List UInt8} {f r : Nat} (h : sameT z s f = false) (hp : pendT z s f = f + r) (h1 : 1 ≤ r) : pieceB z s (f, pendT z s f, sameT z s f) = UInt8.ofNat (r - 1) :: spanT z s f r := by
  unfold pieceB
  rw [h, hp]
  dsimp only
  rw [if_neg (by simp), show f + r - f - 1 = r - 1 by omega, show f + r - f = r by omega]
end Go.Proofs.Ytfkkppagbhllgaa
