/-
  FOR ScanDoes: the steps of limewashlaw05.far.
-/
import Derived.Test.YtkdffcoofijhkaaDoorScanWalkF
set_option linter.unusedVariables false
set_option linter.unusedSimpArgs false
set_option maxRecDepth 8000
namespace Go.Proofs.YtkdffcoofijhkaaDoor
open Go.RowKit

theorem far5_any (B : Nat) (A : Option Addr) (n c : Nat) (ls : List (List UInt8)) (w : World) (h : Strs w B A n ls) (hs : ∀ l ∈ ls, l.length ≤ 9223372036854775807) : Calls Tryd.prog 18 #[.slice A n c] w fun e w' =>
    ∃ b, e = .returned (.bool b) ∧ w' = w ∧ (b = false → n ≤ 30 ∧ ∀ l ∈ ls, l.length ≤ 100) := by
  have hlen := Lib.hid h.length
  have hn := h.len
  have HS := Lib.hid hs; clear hs
  have H := Lib.hid h; clear h
  go_enter Tryd.func18, Tryd.ntmps18
  go_wp2_with fail
  go_loopw [3] (fun i wr => ∃ k : Nat, k ≤ n ∧ i = .int .i64 (k : Int) ∧ wr = w ∧ Hid (∀ l ∈ ls.take k, l.length ≤ 100)) (fun i _ => n - (intOf i).toNat)
  case atStart => exact ⟨0, by omega, rfl, rfl, Lib.hid (by simp)⟩
  case round =>
    obtain ⟨k, hk, rfl, rfl, ha⟩ := hrel
    by_cases hlt : k < n
    · have t1 : decide ((k : Int) < (n : Int)) = true := decide_eq_true (by omega)
      obtain ⟨ad, l, rfl, hbk, hx, hmx, hc⟩ := H.out.get hlt
      have hll := HS.out l hmx
      have HX := Lib.hid hx; clear hx
      by_cases h1 : l.length ≤ 100
      · have t2 : decide ((100 : Int) < (l.length : Int)) = false := decide_eq_false (by omega)
        have H1 := Lib.hid h1; clear h1
        go_wp2_with fail
        go_roundw
        case rel => exact ⟨k + 1, by omega, by go_num, (by trivial), Lib.hid (by
          rw [take_snoc' _ _ _ HX.out]
          intro x hx
          rcases List.mem_append.1 hx with hx | hx
          · exact ha.out x hx
          · rw [List.mem_singleton.1 hx]; exact H1.out)⟩
        case measure => simp only [intOf]; omega
      · have t2 : decide ((100 : Int) < (l.length : Int)) = true := decide_eq_true (by omega)
        clear h1
        go_wp2_with fail
        go_ret
        exact ⟨true, rfl, rfl, fun h => by cases h⟩
    · have t1 : decide ((k : Int) < (n : Int)) = false := decide_eq_false (by omega)
      obtain rfl : k = n := by omega
      obtain ⟨b, hb⟩ : ∃ b, b = decide ((30 : Int) < (k : Int)) := ⟨_, rfl⟩
      have HBB := Lib.hid hb
      have t2 := hb.symm
      clear hb
      go_wp2_with fail
      go_ret
      refine ⟨b, rfl, rfl, fun h => ⟨?_, ?_⟩⟩
      · have h3 := of_decide_eq_false (HBB.out.symm.trans h)
        omega
      · have := ha.out
        rwa [List.take_of_length_le (by rw [hlen.out]; omega)] at this
end Go.Proofs.YtkdffcoofijhkaaDoor
