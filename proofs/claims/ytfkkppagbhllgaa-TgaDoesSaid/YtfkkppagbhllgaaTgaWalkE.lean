/-
  THE STEPS OF tga.Pack, must, take.
-/
import Derived.Test.YtfkkppagbhllgaaTgaWalkD
set_option linter.unusedVariables false
set_option linter.unusedSimpArgs false
set_option maxRecDepth 8000
namespace Go.Proofs.Ytfkkppagbhllgaa
open Go.RowKit

def SE (w : World) (l : List UInt8) (z : Int) (e : Ending) (w' : World) : Prop := e = .returned (.tuple #[.string ⟨l.toArray⟩, .int .i64 z]) ∧ Below w.heap.size w w'
def packOk (s : List UInt8) (size : Int) : Bool := decide ((size = 3 ∨ size = 4) ∧ (s.length : Int) % size = 0)
def packR (s : List UInt8) (size : Int) : List UInt8 × Int := if packOk s size then (packT size.toNat s, 0) else ([], 1)
theorem many_mod {z n : Nat} (h : n % z = 0) : n = n / z * z := by
  have := Nat.div_add_mod n z
  rw [Nat.mul_comm] at this; omega
set_option maxHeartbeats 1600000 in
theorem pack_any (s : List UInt8) (size : Int) (w : World) (hl : s.length ≤ 1000000) (hs : i64b size) :
    Calls Try.prog 16 #[.string ⟨s.toArray⟩, .int .i64 size] w (SE w (packR s size).1 (packR s size).2) := by
  have K := Lib.hid (fun W => colours_any size W)
  by_cases h : size = 3 ∨ size = 4
  · rw [decide_eq_true h] at K
    obtain ⟨z, rfl⟩ : ∃ z : Nat, size = z := ⟨size.toNat, by omega⟩
    have hz : z = 3 ∨ z = 4 := by omega
    have z0 : ((z : Int) == 0) = false := by simp; omega
    have z00 : ¬ ((z : Int) = 0) := by omega
    have z01 : ¬ (z = 0) := by omega
    have tm : (s.length : Int).tmod (z : Int) = ((s.length % z : Nat) : Int) := by rw [Int.tmod_eq_emod_of_nonneg (by omega)]; rfl
    have hb9 : s.length % z ≤ 4 := by have := Nat.mod_lt s.length (show 0 < z by omega); omega
    have wm : IntKind.i64.wrap (((s.length % z : Nat) : Int)) = ((s.length % z : Nat) : Int) := by rw [IntKind.wrap_i64]; omega
    by_cases h0 : s.length % z = 0
    · have e : packR s z = (packT z s, 0) := by
        unfold packR packOk
        rw [decide_eq_true ⟨h, by rw [← Int.natCast_emod, h0]; rfl⟩]; simp
      rw [e]
      have K2 := Lib.hid (fun W => packed_any z s W hz hl (many_mod h0))
      rw [h0] at tm wm
      unfold SR rowV at K2
      unfold SE
      clear e h0 hz h
      go_enter Try.func16, Try.ntmps16
      go_wp2_with fail
      refine (K.out _).mono ?_
      clear K
      rintro e w' ⟨rfl, rfl⟩
      go_wp2_with fail
      refine (K2.out _).mono ?_
      clear K2
      rintro e w' ⟨rfl, hb⟩
      have HB := Lib.hid hb; clear hb
      go_wp2_with fail
      go_ret2
      exact ⟨rfl, HB.out⟩
    · have e : packR s z = ([], 1) := by
        unfold packR packOk
        rw [decide_eq_false (fun hh => h0 (by have := hh.2; rw [← Int.natCast_emod] at this; omega))]; rfl
      rw [e]
      have t1 : (((s.length % z : Nat) : Int) != 0) = true := by simpa using (by omega : ¬ ((s.length % z : Nat) : Int) = 0)
      generalize ((s.length % z : Nat) : Int) = x at *
      unfold SE
      clear e h0 hz h
      go_enter Try.func16, Try.ntmps16
      go_wp2_with fail
      refine (K.out _).mono ?_
      clear K
      rintro e w' ⟨rfl, rfl⟩
      go_wp2_with fail
      go_ret2
      exact ⟨rfl, Below.refl _ _⟩
  · have e : packR s size = ([], 1) := by
      unfold packR packOk
      rw [decide_eq_false (fun hh => h hh.1)]; rfl
    rw [e]
    rw [decide_eq_false h] at K
    unfold SE
    clear e h
    go_enter Try.func16, Try.ntmps16
    go_wp2_with fail
    refine (K.out _).mono ?_
    clear K
    rintro e w' ⟨rfl, rfl⟩
    go_wp2_with fail
    go_ret2
    exact ⟨rfl, Below.refl _ _⟩

/-- an error is thrown -/
def Thrown (z : Int) : Ending := .panicked [{ v := .iface 29 (.int .i64 z), recovered := false }]
theorem must_ok (w : World) : Calls Try.prog 48 #[.bool true] w fun e w' => e = .returned (.tuple #[]) ∧ w' = w := by
  go_enter Try.func48, Try.ntmps48
  go_wp2_with fail
  go_end0
  exact ⟨rfl, rfl⟩
theorem must_bad (w : World) : Calls Try.prog 48 #[.bool false] w fun e w' => e = Thrown 6 ∧ w' = w := by
  unfold Thrown
  go_enter Try.func48, Try.ntmps48
  go_wp2_with fail
  exact ⟨rfl, rfl, rfl⟩
theorem take_ok (g : Nat) (s : List UInt8) (n : Int) (k : Nat) (w : World) (h : SlotN w g [strV s]) (hn : n = (k : Int)) (hk : k ≤ s.length) (hl : s.length ≤ 1000000) :
    Calls Try.prog 47 #[.pointer (some ⟨g, 0, none⟩), .int .i64 n] w fun e w' => e = .returned (strV (s.take k)) ∧ w' = w.setCell ⟨g, 0, none⟩ (strV (s.drop k)) := by
  have c0 := h.c 0 _ rfl
  have f0 := h.f 0
  have K := Lib.hid must_ok
  have t0 : decide (n ≤ (s.length : Int)) = true := decide_eq_true (by omega)
  have H1 := fun W => run_sl_to (P := Try.prog) 9 s n k hn hk Try.underlying9 W
  have H2 := fun W => run_sl_from (P := Try.prog) 9 s n k hn hk Try.underlying9 W
  unfold strV at *
  clear hn hk h
  go_enter Try.func47, Try.ntmps47
  go_wp2_with fail
  refine (K.out _).mono ?_
  clear K
  rintro e w' ⟨rfl, rfl⟩
  go_wp2_with fail
  go_ret
  exact ⟨rfl, rfl⟩
theorem take_bad (g : Nat) (s : List UInt8) (n : Int) (w : World) (h : SlotN w g [strV s]) (hn : (s.length : Int) < n) (hl : s.length ≤ 1000000) :
    Calls Try.prog 47 #[.pointer (some ⟨g, 0, none⟩), .int .i64 n] w fun e w' => e = Thrown 6 ∧ w' = w := by
  have c0 := h.c 0 _ rfl
  have f0 := h.f 0
  have K := Lib.hid must_bad
  have t0 : decide (n ≤ (s.length : Int)) = false := decide_eq_false (by omega)
  unfold strV Thrown at *
  clear hn h
  go_enter Try.func47, Try.ntmps47
  go_wp2_with fail
  refine (K.out _).mono ?_
  clear K
  rintro e w' ⟨rfl, rfl⟩
  go_wp2_with fail
  exact ⟨rfl, rfl, rfl⟩
end Go.Proofs.Ytfkkppagbhllgaa
