/-
  THE WALKS OF limewashref01.Same AND limewashref01.Own.
-/
import Derived.Test.YtkdffcoofijhkaaDoorBase
import Derived.Test.YtkdffcoofijhkaaDoorProg
set_option linter.unusedVariables false
set_option linter.unusedSimpArgs false
namespace Go.Proofs.YtkdffcoofijhkaaDoor
open Go.RowKit

def sameL (xs ys : List Int) : Bool := decide (xs = ys)

theorem same_any (B B' : Nat) (A A' : Option Addr) (n c m d : Nat) (xs ys : List Int) (w : World) (hx : Ints w B A n xs) (hy : Ints w B' A' m ys) :
    Calls Tryd.prog 28 #[.slice A n c, .slice A' m d] w fun e w' => e = .returned (.bool (sameL xs ys)) ∧ ∃ q, w' = w.drewN q := by
  have hn := hx.len
  have hm := hy.len
  have hl := Lib.hid hx.length
  have hl' := Lib.hid hy.length
  by_cases hnm : n = m
  · subst hnm
    have db : (n != n) = false := by simp
    go_enter Tryd.func28, Tryd.ntmps28
    go_wp2_with fail
    go_loopw [5] (fun i wr => ∃ k : Nat, k ≤ n ∧ i = .int .i64 k ∧ Hid (xs.take k = ys.take k) ∧ ∃ q, wr = w.drewN q) (fun i _ => n - (intOf i).toNat)
    case atStart => exact ⟨0, Nat.zero_le _, rfl, rfl, 0, rfl⟩
    case round =>
      obtain ⟨k, hk, rfl, htk, q, rfl⟩ := hrel
      by_cases hlt : k < n
      · obtain ⟨ad, x, rfl, hb, hkx, hmx, hc, hlo, hhi⟩ := hx.get hlt
        obtain ⟨ad', y, rfl, hb', hky, hmy, hc', hlo', hhi'⟩ := hy.get hlt
        have HX := Lib.hid hkx; clear hkx
        have HY := Lib.hid hky; clear hky
        by_cases hxy : x = y
        · subst hxy
          have d1 : (x != x) = false := by simp
          have hk0 : (0 : Int) ≤ (k : Int) := by omega
          have hkn : (k : Int) < (n : Int) := by omega
          go_wp2_with fail
          go_quiet (fail)
          go_wp2_with fail
          go_roundw
          case rel => exact ⟨k + 1, by omega, by go_num, Lib.hid (by rw [take_snoc' _ _ _ HX.out, take_snoc' _ _ _ HY.out, htk.out]), _, rfl⟩
          case measure => simp [intOf]; omega
        · have d1 : (x != y) = true := by simpa using hxy
          have hne : Hid (xs ≠ ys) := Lib.hid fun e => hxy (by have h1 := HX.out; rw [e, HY.out] at h1; exact (Option.some.inj h1).symm)
          clear hxy
          have hk0 : (0 : Int) ≤ (k : Int) := by omega
          have hkn : (k : Int) < (n : Int) := by omega
          go_wp2_with fail
          go_quiet (fail)
          go_wp2_with fail
          go_ret
          exact ⟨ret_bool (by simp [sameL, hne.out]), q + nq, by rw [World.drewN_drewN]⟩
      · go_wp2_with fail
        go_ret
        refine ⟨ret_bool ?_, q, rfl⟩
        have e := htk.out
        rw [List.take_of_length_le (by rw [hl.out]; omega), List.take_of_length_le (by rw [hl'.out]; omega)] at e
        simp [sameL, e]
  · have db : ((n : Int) != (m : Int)) = true := by simp; omega
    have hne : Hid (xs ≠ ys) := Lib.hid fun e => hnm (by rw [← hl.out, ← hl'.out, e])
    clear hnm
    go_enter Tryd.func28, Tryd.ntmps28
    go_wp2_with fail
    go_ret
    exact ⟨ret_bool (by simp [sameL, hne.out]), 0, rfl⟩

theorem same_b (B B' : Nat) (A A' : Option Addr) (n c m d : Nat) (xs ys : List Int) (w : World) (hx : Ints w B A n xs) (hy : Ints w B' A' m ys) :
    Calls Tryd.prog 28 #[.slice A n c, .slice A' m d] w fun e w' => e = .returned (.bool (sameL xs ys)) ∧ Below w.heap.size w w' :=
  (same_any B B' A A' n c m d xs ys w hx hy).mono fun _ _ ⟨he, q, hw⟩ => ⟨he, hw ▸ below_drewN (Below.refl _ _) q⟩
end Go.Proofs.YtkdffcoofijhkaaDoor
