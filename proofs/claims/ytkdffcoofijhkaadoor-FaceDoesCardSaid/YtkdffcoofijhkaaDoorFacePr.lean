/-
  THE TEXT OF A CORNER, as a plain function. No program in sight.
-/
import Derived.Test.YtkdffcoofijhkaaDoorFaceS
import Derived.Lib.Join
set_option linter.unusedVariables false
set_option linter.unusedSimpArgs false
namespace Go.Proofs.YtkdffcoofijhkaaDoor
open Go
def okC (c : P3) : Bool := decide (0 ≤ c.a ∧ c.a ≤ 9999998 ∧ -1 ≤ c.b ∧ c.b ≤ 9999998 ∧ -1 ≤ c.c ∧ c.c ≤ 9999998)
def numC (n : Int) : List UInt8 := if 0 ≤ n then Lib.decDigits (n + 1).toNat else []
def joinC (c : P3) : List UInt8 := Lib.join [Lib.decDigits (c.a + 1).toNat, numC c.b, numC c.c] [47]
def textC (c : P3) : List UInt8 := Lib.trimRightB (joinC c) 47
def printC (c : P3) : List UInt8 × Int := if okC c then (textC c, 0) else ([], 1)
theorem joinC_eq (c : P3) : joinC c = Lib.decDigits (c.a + 1).toNat ++ 47 :: numC c.b ++ 47 :: numC c.c := by
  unfold joinC
  rw [Lib.join_cons]
  simp [Lib.joinTail]
theorem trimR_last (l : List UInt8) (c x : UInt8) (h : x ≠ c) : Lib.trimRightB (l ++ [x]) c = l ++ [x] := by
  unfold Lib.trimRightB
  simp [List.reverse_append, List.dropWhile_cons, h]
theorem trimR_same (l : List UInt8) (c : UInt8) : Lib.trimRightB (l ++ [c]) c = Lib.trimRightB l c := by
  unfold Lib.trimRightB
  simp [List.reverse_append, List.dropWhile_cons]
theorem dec_last (u : Nat) : ∃ l d, Lib.decDigits u = l ++ [d] ∧ d ≠ 47 := by
  obtain ⟨l, d, e⟩ := snoc_of (Lib.decDigits u) (dec_ne u)
  refine ⟨l, d, e, ?_⟩
  have ha := dec_all u
  rw [e] at ha
  simp only [List.all_append, List.all_cons, List.all_nil, Bool.and_true, Bool.and_eq_true] at ha
  rintro rfl
  have := ha.2
  simp [isDig] at this
theorem trimR_dec (l : List UInt8) (u : Nat) : Lib.trimRightB (l ++ Lib.decDigits u) 47 = l ++ Lib.decDigits u := by
  obtain ⟨r, d, e, hd⟩ := dec_last u
  rw [e, ← List.append_assoc, trimR_last _ _ _ hd]
/-- a corner's text, part by part -/
theorem textC_eq (c : P3) : textC c = if c.c < 0 then (if c.b < 0 then Lib.decDigits (c.a + 1).toNat else Lib.decDigits (c.a + 1).toNat ++ 47 :: Lib.decDigits (c.b + 1).toNat)
    else Lib.decDigits (c.a + 1).toNat ++ 47 :: numC c.b ++ 47 :: Lib.decDigits (c.c + 1).toNat := by
  unfold textC
  rw [joinC_eq]
  by_cases h2 : c.c < 0
  · rw [if_pos h2]
    have e2 : numC c.c = [] := by unfold numC; rw [if_neg (by omega)]
    rw [e2, trimR_same]
    by_cases h1 : c.b < 0
    · have e1 : numC c.b = [] := by unfold numC; rw [if_neg (by omega)]
      rw [if_pos h1, e1, trimR_same]
      have := trimR_dec [] (c.a + 1).toNat
      simpa using this
    · have e1 : numC c.b = Lib.decDigits (c.b + 1).toNat := by unfold numC; rw [if_pos (by omega)]
      rw [if_neg h1, e1]
      have := trimR_dec (Lib.decDigits (c.a + 1).toNat ++ [47]) (c.b + 1).toNat
      simpa using this
  · rw [if_neg h2]
    have e2 : numC c.c = Lib.decDigits (c.c + 1).toNat := by unfold numC; rw [if_pos (by omega)]
    rw [e2]
    have := trimR_dec (Lib.decDigits (c.a + 1).toNat ++ 47 :: numC c.b ++ [47]) (c.c + 1).toNat
    simpa using this
end Go.Proofs.YtkdffcoofijhkaaDoor
