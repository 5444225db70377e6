/-
  THE STEPS OF tga's rows of colours: many, at, same, colours.
-/
import Derived.Test.YtfkkppagbhllgaaTxt
import Derived.Test.YtfkkppagbhllgaaTgaP
import Derived.Test.YtfkkppagbhllgaaSkip
import Derived.Test.YtfkkppagbhllgaaProg
set_option linter.unusedVariables false
set_option linter.unusedSimpArgs false
set_option maxRecDepth 8000
namespace Go.Proofs.Ytfkkppagbhllgaa
open Go.RowKit

/-- a row of colours -/
def rowV (z : Nat) (l : List UInt8) : Value := .agg #[.string ⟨l.toArray⟩, .int .i64 (z : Int)]
theorem colours_any (z : Int) (w : World) : Calls Try.prog 40 #[.int .i64 z] w fun e w' => e = .returned (.bool (decide (z = 3 ∨ z = 4))) ∧ w' = w := by
  by_cases h3 : z = 3
  · subst h3
    go_enter Try.func40, Try.ntmps40
    go_wp2_with fail
    go_ret
    exact ⟨rfl, rfl⟩
  · have t1 : (z == 3) = false := by simpa using h3
    by_cases h4 : z = 4
    · subst h4
      go_enter Try.func40, Try.ntmps40
      go_wp2_with fail
      go_ret
      exact ⟨rfl, rfl⟩
    · have t2 : (z == 4) = false := by simpa using h4
      have e : decide (z = 3 ∨ z = 4) = false := decide_eq_false (by omega)
      rw [e]
      clear h3 h4 e
      go_enter Try.func40, Try.ntmps40
      go_wp2_with fail
      go_ret
      exact ⟨rfl, rfl⟩
theorem many_any (z : Nat) (l : List UInt8) (w : World) (hz : z = 3 ∨ z = 4) (hl : l.length ≤ 1000000) :
    Calls Try.prog 66 #[rowV z l] w fun e w' => e = .returned (.int .i64 (manyT z l : Nat)) ∧ Below w.heap.size w w' := by
  have td : (l.length : Int).tdiv (z : Int) = (manyT z l : Nat) := by
    rw [Int.tdiv_eq_ediv_of_nonneg (by omega)]; rfl
  have hm : manyT z l ≤ 1000000 := Nat.le_trans (Nat.div_le_self _ _) hl
  have wd : IntKind.i64.wrap (((manyT z l : Nat) : Int)) = ((manyT z l : Nat) : Int) := by rw [IntKind.wrap_i64]; omega
  have z0 : ((z : Int) == 0) = false := by simp; omega
  have z00 : ¬ ((z : Int) = 0) := by omega
  have z01 : ¬ (z = 0) := by omega
  have hb : Below w.heap.size w (w.alloc (.cells #[.string ⟨l.toArray⟩, .int .i64 (z : Int)] 48)) := (Below.refl _ _).alloc (Nat.le_refl _) _
  have s := SlotN.new w [.string ⟨l.toArray⟩, .int .i64 (z : Int)] #[.string ⟨l.toArray⟩, .int .i64 (z : Int)] 48 rfl
  have s0 := s.c 0 _ rfl
  have s1 := s.c 1 _ rfl
  generalize manyT z l = m at *
  unfold rowV
  clear s hz
  go_enter Try.func66, Try.ntmps66
  go_wp2_with fail
  go_ret
  exact ⟨rfl, hb⟩
theorem at_any (z : Nat) (l : List UInt8) (i : Nat) (w : World) (hz : z = 3 ∨ z = 4) (hl : l.length ≤ 1000000) (hi : i < manyT z l) :
    Calls Try.prog 53 #[rowV z l, .int .i64 (i : Int)] w fun e w' => e = .returned (.string ⟨(colT z l i).toArray⟩) ∧ Below w.heap.size w w' := by
  have hiz : (i + 1) * z ≤ l.length := by
    have h1 : (i + 1) * z ≤ manyT z l * z := Nat.mul_le_mul_right _ hi
    have h2 : manyT z l * z ≤ l.length := Nat.div_mul_le_self _ _
    omega
  have HS : ∀ W, (Instr.slice 9 (.string ⟨l.toArray⟩) (some (.int .i64 ((i : Int) * (z : Int)))) (some (.int .i64 (((i : Int) + 1) * (z : Int)))) none).run Try.prog W = .ok (.string ⟨(colT z l i).toArray⟩) W := fun W => by
    rw [run_sl 9 l _ _ (i * z) ((i + 1) * z) (by simp) (by simp) (Nat.mul_le_mul_right _ (by omega)) hiz Try.underlying9 W]
    unfold colT
    rw [show (i + 1) * z - i * z = z by rw [Nat.succ_mul]; omega]
  have hiz' := hiz
  rw [Nat.succ_mul] at hiz'
  have m0 : (0 : Int) ≤ (i : Int) * (z : Int) := Int.mul_nonneg (by omega) (by omega)
  have m1 : (i : Int) * (z : Int) ≤ 1000000 := by
    have : ((i * z : Nat) : Int) ≤ 1000000 := by omega
    simpa using this
  have m2 : (0 : Int) ≤ ((i : Int) + 1) * (z : Int) := Int.mul_nonneg (by omega) (by omega)
  have m3 : ((i : Int) + 1) * (z : Int) ≤ 1000000 := by
    have : (((i + 1) * z : Nat) : Int) ≤ 1000000 := by omega
    simpa using this
  have i1 : (i : Int) ≤ 1000000 := by
    have := Nat.div_le_self l.length z
    unfold manyT at hi
    omega
  have hb : Below w.heap.size w (w.alloc (.cells #[.string ⟨l.toArray⟩, .int .i64 (z : Int)] 48)) := (Below.refl _ _).alloc (Nat.le_refl _) _
  have s := SlotN.new w [.string ⟨l.toArray⟩, .int .i64 (z : Int)] #[.string ⟨l.toArray⟩, .int .i64 (z : Int)] 48 rfl
  have s0 := s.c 0 _ rfl
  have s1 := s.c 1 _ rfl
  unfold rowV
  clear s hiz hiz' hi hz
  go_enter Try.func53, Try.ntmps53
  go_wp2_with fail
  go_ret
  exact ⟨rfl, hb⟩
end Go.Proofs.Ytfkkppagbhllgaa
