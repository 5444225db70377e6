/-
  THE WALKS OF limewashref29's colour and Pack.
-/
import Derived.Test.YtfkkppagbhllgaaTgaRefP
import Derived.Test.YtfkkppagbhllgaaTgaWalkE
set_option linter.unusedVariables false
set_option linter.unusedSimpArgs false
set_option maxRecDepth 100000
namespace Go.Proofs.Ytfkkppagbhllgaa
open Go.RowKit

theorem colour_any (z : Nat) (l : List UInt8) (i : Nat) (k : Int) (w : World) (hz : z = 3 ∨ z = 4) (hl : l.length ≤ 1000000) (hi : i < manyT z l) (hk : k = (i : Int)) :
    Calls Try.prog 41 #[.string ⟨l.toArray⟩, .int .i64 (z : Int), .int .i64 k] w fun e w' => e = .returned (.string ⟨(colT z l i).toArray⟩) ∧ w' = w := by
  subst hk
  have hiz : (i + 1) * z ≤ l.length := by
    have h1 : (i + 1) * z ≤ manyT z l * z := Nat.mul_le_mul_right _ hi
    have h2 : manyT z l * z ≤ l.length := Nat.div_mul_le_self _ _
    omega
  have hiz' := hiz
  rw [Nat.succ_mul] at hiz'
  have HM : (z : Int) * (i : Int) = ((i * z : Nat) : Int) := by rw [Int.mul_comm]; simp
  have HS : ∀ W, (Instr.slice 9 (.string ⟨l.toArray⟩) (some (.int .i64 ((i * z : Nat) : Int))) (some (.int .i64 (((i * z : Nat) : Int) + (z : Int)))) none).run Try.prog W = .ok (.string ⟨(colT z l i).toArray⟩) W := fun W => by
    rw [run_sl 9 l _ _ (i * z) (i * z + z) rfl (by simp) (Nat.le_add_right _ _) hiz' Try.underlying9 W]
    unfold colT
    rw [show i * z + z - i * z = z by omega]
  generalize i * z = a at *
  have w1 : IntKind.i64.wrap ((a : Nat) : Int) = (a : Int) := by rw [IntKind.wrap_i64]; omega
  have w2 : IntKind.i64.wrap (((a : Nat) : Int) + (z : Int)) = (a : Int) + (z : Int) := by rw [IntKind.wrap_i64]; omega
  clear hiz hi hz
  go_enter Try.func41, Try.ntmps41
  go_wp2_with fail
  go_ret
  exact ⟨rfl, rfl⟩
theorem colT_len {z : Nat} {s : List UInt8} {i : Nat} (hl : s.length = manyT z s * z) (h : i < manyT z s) : (colT z s i).length = z := by
  rw [← spanT_one, spanT_len hl (by omega), Nat.one_mul]
/-- one byte, made a text -/
theorem byte_text (W : World) (c : UInt8) (x : Int) (hx : x = (c.toNat : Int)) (B : Nat) (hB : B = W.heap.size) :
    (convert 22 9 (.slice (some ⟨B, 0, none⟩) 1 1)).run Try.prog (W.alloc (.cells #[.int .u8 x] 5)) = .ok (.string ⟨#[c]⟩) (W.alloc (.cells #[.int .u8 x] 5)) := by
  subst hx; subst hB
  exact run_convert_bytes_back (P := Try.prog) (W.alloc (.cells #[.int .u8 (c.toNat : Int)] 5)) 22 9 5 ⟨W.heap.size, 0, none⟩ 1 [c] Try.underlying22 Try.underlying5 Try.underlying9 fun j hj => by
    obtain rfl : j = 0 := by simp at hj; omega
    rw [addr_lit, cell_of_row _ _ _ _ _ _ (heap_alloc_new W _)]
    rfl

set_option maxHeartbeats 1600000 in
theorem packref_no (s : List UInt8) (size : Int) (w : World) (hl : s.length ≤ 1000000) (h : packOk s size = false) :
    Calls Try.prog 17 #[.string ⟨s.toArray⟩, .int .i64 size] w fun e w' => e = .returned (.tuple #[.string ⟨#[]⟩, .int .i64 1]) ∧ Below w.heap.size w w' := by
  by_cases h3 : size = 3
  · subst h3
    have tm : (s.length : Int).tmod 3 = ((s.length % 3 : Nat) : Int) := by rw [Int.tmod_eq_emod_of_nonneg (by omega)]; rfl
    have h9 : s.length % 3 ≠ 0 ∧ s.length % 3 ≤ 4 := by
      unfold packOk at h
      rw [decide_eq_false_iff_not] at h
      omega
    have t9 : (((s.length % 3 : Nat) : Int) != 0) = true := by rw [bne_iff_ne]; omega
    have w9 : IntKind.i64.wrap ((s.length % 3 : Nat) : Int) = ((s.length % 3 : Nat) : Int) := by rw [IntKind.wrap_i64]; omega
    generalize s.length % 3 = N at *
    clear h h9 hl
    go_enter Try.func17, Try.ntmps17
    go_wp2_with fail
    go_ret2
    exact ⟨rfl, Below.refl _ _⟩
  · by_cases h4 : size = 4
    · subst h4
      have tm : (s.length : Int).tmod 4 = ((s.length % 4 : Nat) : Int) := by rw [Int.tmod_eq_emod_of_nonneg (by omega)]; rfl
      have h9 : s.length % 4 ≠ 0 ∧ s.length % 4 ≤ 4 := by
        unfold packOk at h
        rw [decide_eq_false_iff_not] at h
        omega
      have t9 : (((s.length % 4 : Nat) : Int) != 0) = true := by rw [bne_iff_ne]; omega
      have w9 : IntKind.i64.wrap ((s.length % 4 : Nat) : Int) = ((s.length % 4 : Nat) : Int) := by rw [IntKind.wrap_i64]; omega
      generalize s.length % 4 = N at *
      clear h h9 hl h3
      go_enter Try.func17, Try.ntmps17
      go_wp2_with fail
      go_ret2
      exact ⟨rfl, Below.refl _ _⟩
    · have t3 : (size != 3) = true := by rw [bne_iff_ne]; exact h3
      have t4 : (size != 4) = true := by rw [bne_iff_ne]; exact h4
      clear h hl h3 h4
      go_enter Try.func17, Try.ntmps17
      go_wp2_with fail
      go_ret2
      exact ⟨rfl, Below.refl _ _⟩
end Go.Proofs.Ytfkkppagbhllgaa
