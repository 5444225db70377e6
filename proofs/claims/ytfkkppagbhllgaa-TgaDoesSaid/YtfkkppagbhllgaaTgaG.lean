/-
  A GREY PICTURE, in plain words. No program in sight.
-/
import Derived.Test.YtfkkppagbhllgaaTgaS
import Derived.Test.YtfkkppagbhllgaaDilSpec
set_option linter.unusedVariables false
set_option linter.unusedSimpArgs false
namespace Go.Proofs.Ytfkkppagbhllgaa

def greyC (z : Nat) (x : Int) : List UInt8 := [UInt8.ofNat x.toNat, UInt8.ofNat x.toNat, UInt8.ofNat x.toNat, 255].take z
def greyT (z : Nat) (v : List Int) : List UInt8 := v.flatMap (greyC z)
def greyOk (ww : Int) (v : List Int) (b : Int) : Bool := levelOk ww v && !v.isEmpty && !(v.any ((-1 : Int) == ·)) && (b == 24 || b == 32)
theorem greyOk_iff {ww : Int} {v : List Int} {b : Int} : greyOk ww v b = true ↔ levelOk ww v = true ∧ 0 < v.length ∧ v.any ((-1 : Int) == ·) = false ∧ (b = 24 ∨ b = 32) := by
  unfold greyOk
  cases v with
  | nil => simp
  | cons a v => simp [and_assoc]
theorem greyC_len {z : Nat} (hz : z = 3 ∨ z = 4) (x : Int) : (greyC z x).length = z := by rcases hz with rfl | rfl <;> rfl
theorem greyT_len {z : Nat} (hz : z = 3 ∨ z = 4) (v : List Int) : (greyT z v).length = v.length * z := by
  induction v with
  | nil => simp [greyT]
  | cons a v ih =>
    unfold greyT at *
    rw [List.flatMap_cons, List.length_append, greyC_len hz, ih, List.length_cons, Nat.succ_mul]; omega
theorem greyT_snoc (z : Nat) (v : List Int) (x : Int) : greyT z (v ++ [x]) = greyT z v ++ greyC z x := by simp [greyT]
/-- a value is a byte -/
theorem grey_byte {x : Int} (h : grey x = true) (h1 : x ≠ -1) : ∃ b : UInt8, x = (b.toNat : Int) ∧ UInt8.ofNat x.toNat = b := by
  have := grey_iff.1 h
  have e : (UInt8.ofNat x.toNat).toNat = x.toNat := u8_of _ (by omega)
  exact ⟨UInt8.ofNat x.toNat, by rw [e]; omega, rfl⟩
end Go.Proofs.Ytfkkppagbhllgaa
