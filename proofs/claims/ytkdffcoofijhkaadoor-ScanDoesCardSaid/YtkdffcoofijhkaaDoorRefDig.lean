/-
  THE STEPS OF limewashref05.Digits.
-/
import Derived.Test.YtkdffcoofijhkaaDoorStr
import Derived.Test.YtkdffcoofijhkaaDoorScanL
import Derived.Laws.IdiomStrings
set_option linter.unusedVariables false
set_option linter.unusedSimpArgs false
set_option maxRecDepth 8000
namespace Go.Proofs.YtkdffcoofijhkaaDoor
open Go.RowKit

/-- one byte, made a text -/
theorem run_byt (w : World) (c : UInt8) (g : Nat) (hc : w.cell? ⟨g, 0, none⟩ = some (.int .u8 (c.toNat : Int))) :
    (convert 49 9 (.slice (some ⟨g, 0, none⟩) 1 1)).run Tryd.prog w = .ok (.string ⟨[c].toArray⟩) w := by
  refine run_convert_bytes_back w _ _ 5 ⟨g, 0, none⟩ 1 [c] Tryd.underlying49 Tryd.underlying5 Tryd.underlying9 fun j hj => ?_
  obtain rfl : j = 0 := by simp at hj; omega
  rw [addr_lit]
  exact hc
def dch (k : Nat) : UInt8 := UInt8.ofNat (48 + k % 10)
theorem chr_val (k : Nat) : ((dch k).toNat : Int) = 48 + (k : Int) % 10 := by
  unfold dch
  rw [UInt8.toNat_ofNat']
  omega
/-- the digits ahead of those told -/
def ahead (k : Nat) : List UInt8 := if k < 10 then [] else Lib.decDigits (k / 10)
theorem ahead_cons (k : Nat) : ahead k ++ [dch k] = Lib.decDigits k := by
  unfold ahead dch
  by_cases h : k < 10
  · rw [if_pos h, dec_small h, Nat.mod_eq_of_lt h]; rfl
  · rw [if_neg h, dec_big h]
set_option maxHeartbeats 1600000 in
theorem rdig_any (N : Nat) (w : World) (hN : (N : Int) ≤ 9223372036854775807) : Calls Tryd.prog 37 #[.int .i64 (N : Int)] w (SR w (Lib.decDigits N)) := by
  have hlen := dec_len N 18 (by omega)
  have FIN : Hid (∀ (l : List UInt8) w', l = Lib.decDigits N → Below w.heap.size w w' → SR w (Lib.decDigits N) (.returned (.string ⟨l.toArray⟩)) w') := Lib.hid (by rintro l w' rfl hb; exact ⟨rfl, hb⟩)
  generalize hQ : SR w (Lib.decDigits N) = Qp at FIN ⊢
  clear hQ
  have HA := Lib.hid (ahead_cons N)
  obtain ⟨X, hX⟩ : ∃ X, X = Lib.decDigits N := ⟨_, rfl⟩
  have HX := Lib.hid hX
  rw [← hX] at hlen HA FIN
  clear hX
  have tm : (N : Int).tmod 10 = (N : Int) % 10 := Int.tmod_eq_emod_of_nonneg (by omega)
  have cv : IntKind.u8.wrap (48 + (N : Int) % 10) = 48 + (N : Int) % 10 := by rw [IntKind.wrap_u8]; omega
  have c0 := chr_val N
  have kc := run_byt (w.alloc (.cells #[.int .u8 (48 + (N : Int) % 10)] 5)) (dch N) w.heap.size (by rw [c0, cell_of_row _ _ _ _ _ _ (heap_alloc_new w _)]; rfl)
  have h0 : Below w.heap.size w (w.alloc (.cells #[.int .u8 (48 + (N : Int) % 10)] 5)) := (Below.refl _ _).alloc (Nat.le_refl _) _
  clear c0
  go_enter Tryd.func37, Tryd.ntmps37
  go_wp2_with fail
  have HK := Lib.hid kc; clear kc
  generalize w.alloc (.cells #[.int .u8 (48 + (N : Int) % 10)] 5) = V at *
  go_loopw [0, 3] (fun i u wr => ∃ (k : Nat) (l : List UInt8), i = .int .i64 (k : Int) ∧ u = .string ⟨l.toArray⟩ ∧ k ≤ N ∧ Hid (ahead k ++ l = X) ∧ l.length ≤ 19 ∧ Below w.heap.size w wr) (fun i _ _ => (intOf i).toNat)
  case atStart => exact ⟨N, _, rfl, rfl, by omega, HA, by simp, h0⟩
  case round =>
    obtain ⟨k, l, rfl, rfl, hk, hl, hll, hbk⟩ := hrel
    by_cases hlt : k < 10
    · have t0 : decide (10 ≤ (k : Int)) = false := decide_eq_false (by omega)
      go_wp2_with fail
      refine FIN.out _ _ ?_ hbk
      rw [← hl.out]; unfold ahead; rw [if_pos hlt]; rfl
    · have t0 : decide (10 ≤ (k : Int)) = true := decide_eq_true (by omega)
      have td : (k : Int).tdiv 10 = ((k / 10 : Nat) : Int) := by rw [Int.tdiv_eq_ediv_of_nonneg (by omega)]; omega
      have wd : IntKind.i64.wrap (((k / 10 : Nat) : Int)) = ((k / 10 : Nat) : Int) := by rw [IntKind.wrap_i64]; omega
      have HL : Hid (ahead (k / 10) ++ dch (k / 10) :: l = X) := Lib.hid (by
        have e := ahead_cons (k / 10)
        have e2 := hl.out
        unfold ahead at e2
        rw [if_neg hlt, ← e] at e2
        simpa using e2)
      have hl9 : (dch (k / 10) :: l).length ≤ 19 := by
        have := congrArg List.length HL.out
        simp at this hlen ⊢; omega
      obtain ⟨K, hK⟩ : ∃ K, K = k / 10 := ⟨_, rfl⟩
      have hKk : K < k := by omega
      rw [← hK] at td wd HL hl9
      have tm : (K : Int).tmod 10 = (K : Int) % 10 := Int.tmod_eq_emod_of_nonneg (by omega)
      have cv : IntKind.u8.wrap (48 + (K : Int) % 10) = 48 + (K : Int) % 10 := by rw [IntKind.wrap_u8]; omega
      have c0 := chr_val K
      have kc := run_byt (wr.alloc (.cells #[.int .u8 (48 + (K : Int) % 10)] 5)) (dch K) wr.heap.size (by rw [c0, cell_of_row _ _ _ _ _ _ (heap_alloc_new wr _)]; rfl)
      have A1 := run_cat (P := Tryd.prog) [dch K] l (by simp; omega) (wr.alloc (.cells #[.int .u8 (48 + (K : Int) % 10)] 5))
      clear c0 hK
      go_wp2_with fail
      go_roundw
      case rel => exact ⟨K, _, rfl, rfl, by omega, HL, hl9, hbk.alloc hbk.size _⟩
      case measure => simp only [intOf]; omega
end Go.Proofs.YtkdffcoofijhkaaDoor
