/-
  THE WALKS OF slices.Index AND Contains, of ints.
-/
import Derived.Test.YtfkkppagbhllgaaContT
set_option linter.unusedVariables false
set_option linter.unusedSimpArgs false
namespace Go.Proofs.Ytfkkppagbhllgaa
open Go.RowKit

theorem idxE_any (B : Nat) (y : Int) (A : Option Addr) (n c : Nat) (xs : List Int) (w : World) (h : Ints w B A n xs) :
    Calls Try.prog 62 #[.slice A n c, .int .i64 y] w fun e w' => IdxRes' (xs.any (y == ·)) e ∧ w = w' := by
  have hn := h.len
  go_enter Try.func62, Try.ntmps62
  go_wp2
  go_loop [8] (fun i => ∃ k : Nat, k ≤ n ∧ i = .int .i64 k ∧ Hid ((xs.take k).any (y == ·) = false)) (fun i => n - (intOf i).toNat)
  case atStart => exact ⟨0, Nat.zero_le _, rfl, rfl⟩
  case round =>
    obtain ⟨k, hk, rfl, hany⟩ := hrel
    by_cases hlt : k < n
    · obtain ⟨ad, x, rfl, hb, hx, hm, hc, hlo, hhi⟩ := h.get hlt
      have HX := Lib.hid hx; clear hx
      cases hfx : (y == x) with
      | true =>
        have HFX := Lib.hid hfx
        go_wp2_with fail
        go_ret
        exact ⟨.yes (any_true' hm HFX.out) (by omega), rfl⟩
      | false =>
        have HFX := Lib.hid hfx
        go_wp2_with fail
        go_round
        case rel => exact ⟨k + 1, by omega, by go_num, by
          refine Lib.hid ?_
          rw [take_snoc' _ _ _ HX.out, List.any_append, hany.out]
          simpa using HFX.out⟩
        case measure => simp [intOf]; omega
    · go_wp2_with fail
      go_ret
      refine ⟨.no ?_, rfl⟩
      have := hany.out
      rw [List.take_of_length_le (by rw [h.length]; omega)] at this
      exact this
theorem containsE_any (B : Nat) (y : Int) (A : Option Addr) (n c : Nat) (xs : List Int) (w : World) (h : Ints w B A n xs) :
    Calls Try.prog 38 #[.slice A n c, .int .i64 y] w fun e w' => e = .returned (.bool (xs.any (y == ·))) ∧ w = w' := by
  go_enter Try.func38, Try.ntmps38
  go_wp2_with fail
  refine (idxE_any B y A n c xs _ h).mono ?_
  rintro e w' ⟨⟨r, rfl, h1, h2, hr⟩, rfl⟩
  have HR := Lib.hid hr; clear hr
  go_wp2_with fail
  go_ret
  exact ⟨ret_bool HR.out, rfl⟩
end Go.Proofs.Ytfkkppagbhllgaa
