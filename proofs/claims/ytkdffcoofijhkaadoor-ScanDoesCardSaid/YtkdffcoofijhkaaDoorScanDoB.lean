/-
  FOR ScanDoes: the steps of limewashref05.digit.
-/
import Derived.Test.YtkdffcoofijhkaaDoorScanWalkF
set_option linter.unusedVariables false
set_option linter.unusedSimpArgs false
set_option maxRecDepth 8000
namespace Go.Proofs.YtkdffcoofijhkaaDoor
open Go.RowKit

theorem rdigit_any (c : UInt8) (w : World) : Calls Tryd.prog 55 #[.int .u8 (c.toNat : Int)] w fun e w' => e = .returned (.bool (isDig c)) ∧ w' = w := by
  have h := c.toNat_lt
  by_cases h1 : 48 ≤ c.toNat
  · have t1 : decide ((48 : Int) ≤ (c.toNat : Int)) = true := decide_eq_true (by omega)
    by_cases h2 : c.toNat ≤ 57
    · have t2 : decide ((c.toNat : Int) ≤ 57) = true := decide_eq_true (by omega)
      have e : isDig c = true := (isDig_iff c).2 ⟨h1, h2⟩
      rw [e]
      clear h1 h2 e h
      generalize (c.toNat : Int) = x at *
      go_enter Tryd.func55, Tryd.ntmps55
      go_wp2_with fail
      go_ret
      exact ⟨rfl, rfl⟩
    · have t2 : decide ((c.toNat : Int) ≤ 57) = false := decide_eq_false (by omega)
      have e : isDig c = false := by rw [Bool.eq_false_iff]; intro h9; exact h2 ((isDig_iff c).1 h9).2
      rw [e]
      clear h1 h2 e h
      generalize (c.toNat : Int) = x at *
      go_enter Tryd.func55, Tryd.ntmps55
      go_wp2_with fail
      go_ret
      exact ⟨rfl, rfl⟩
  · have t1 : decide ((48 : Int) ≤ (c.toNat : Int)) = false := decide_eq_false (by omega)
    have e : isDig c = false := by rw [Bool.eq_false_iff]; intro h9; exact h1 ((isDig_iff c).1 h9).1
    rw [e]
    clear h1 e h
    generalize (c.toNat : Int) = x at *
    go_enter Tryd.func55, Tryd.ntmps55
    go_wp2_with fail
    go_ret
    exact ⟨rfl, rfl⟩
end Go.Proofs.YtkdffcoofijhkaaDoor
