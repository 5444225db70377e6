/-
  CORNERS OF A FACE, as plain functions of texts and numbers. No program in sight.
-/
import Derived.Test.YtkdffcoofijhkaaDoorScanM
import Derived.Lib.SplitLaws
set_option linter.unusedVariables false
set_option linter.unusedSimpArgs false
namespace Go.Proofs.YtkdffcoofijhkaaDoor
open Go

/-- one place among many; its error -/
def placeR (s : List UInt8) (many : Int) : Int × Int :=
  if wholeOk s then (if 1 ≤ wholeN s ∧ wholeN s ≤ many then (wholeN s - 1, 0) else if wholeN s ≤ -1 ∧ -wholeN s ≤ many then (many + wholeN s, 0) else (0, 7)) else (0, 6)
/-- a text's parts between strokes -/
def split1 (c : UInt8) : List UInt8 → List (List UInt8)
  | [] => [[]]
  | a :: t => if a = c then [] :: split1 c t else match split1 c t with
    | h :: r => (a :: h) :: r
    | [] => [[a]]
theorem split1_ne (c : UInt8) : ∀ l, split1 c l ≠ []
  | [] => by simp [split1]
  | a :: t => by
    unfold split1
    split
    · simp
    · split <;> simp
theorem index_hit (c : UInt8) (t : List UInt8) : Lib.index (c :: t) [c] = 0 := by unfold Lib.index; simp
theorem index_miss (c a : UInt8) (t : List UInt8) (h : a ≠ c) : Lib.index (a :: t) [c] = if Lib.index t [c] = -1 then -1 else Lib.index t [c] + 1 := by
  have hp : [c].isPrefixOf (a :: t) = false := by
    have : ¬ c = a := fun e => h e.symm
    simp [List.isPrefixOf, this]
  generalize hq : Lib.index t [c] = q
  unfold Lib.index
  rw [hp, hq]
  by_cases h9 : q = -1 <;> simp [h9]
theorem splitK_eq (c : UInt8) : ∀ (l : List UInt8), Lib.splitK [c] 0 (l.count c) l = split1 c l
  | [] => by simp [Lib.splitK, split1]
  | a :: t => by
    have ih := splitK_eq c t
    by_cases h : a = c
    · subst h
      rw [List.count_cons_self]
      unfold Lib.splitK split1
      rw [index_hit]
      simp [ih]
    · rw [List.count_cons_of_ne h]
      have hi := index_miss c a t h
      have hg := Lib.index_ge t [c]
      unfold split1
      rw [if_neg h, ← ih]
      cases hk : t.count c with
      | zero => simp [Lib.splitK]
      | succ k =>
        unfold Lib.splitK
        rw [hi]
        by_cases h9 : Lib.index t [c] = -1
        · simp [h9]
        · have h8 : ¬ (Lib.index t [c] + 1 == -1) = true := by simp; omega
          have h7 : ¬ (Lib.index t [c] == -1) = true := by simpa using h9
          have e1 : (Lib.index t [c] + 1).toNat = (Lib.index t [c]).toNat + 1 := by omega
          rw [if_neg h9, if_neg h8, if_neg h7, e1]
          simp only [Nat.add_zero, List.take_succ_cons, List.length_cons, List.length_nil]
          rw [show (Lib.index t [c]).toNat + 1 + (0 + 1) = ((Lib.index t [c]).toNat + (0 + 1)) + 1 by omega, List.drop_succ_cons]
theorem split_eq (s : List UInt8) (c : UInt8) : (Lib.splitB ⟨#[c]⟩ 0 (Lib.countB ⟨s.toArray⟩ ⟨#[c]⟩) ⟨s.toArray⟩).map (·.data.toList) = split1 c s := by
  rw [Lib.splitB_data]
  have : Lib.countB ⟨s.toArray⟩ ⟨#[c]⟩ = s.count c := by
    show Lib.count s [c] = _
    exact Lib.count_one c s
  rw [this]
  exact splitK_eq c s
theorem split1_len (c : UInt8) : ∀ l : List UInt8, (split1 c l).length = l.count c + 1
  | [] => by simp [split1]
  | a :: t => by
    have ih := split1_len c t
    unfold split1
    by_cases h : a = c
    · subst h; simp [ih]
    · rw [if_neg h, List.count_cons_of_ne h]
      cases e : split1 c t with
      | nil => exact absurd e (split1_ne c t)
      | cons x r => rw [e] at ih; simpa using ih
theorem split1_le (c : UInt8) : ∀ l : List UInt8, ∀ x ∈ split1 c l, x.length ≤ l.length
  | [], x, h => by simp [split1] at h; simp [h]
  | a :: t, x, h => by
    have ih := split1_le c t
    unfold split1 at h
    by_cases hc : a = c
    · rw [if_pos hc] at h
      rcases List.mem_cons.1 h with rfl | h
      · simp
      · have := ih x h; simp; omega
    · rw [if_neg hc] at h
      cases e : split1 c t with
      | nil => exact absurd e (split1_ne c t)
      | cons y r =>
        rw [e] at h
        rcases List.mem_cons.1 h with rfl | h
        · have := ih y (by rw [e]; exact List.mem_cons_self); simp; omega
        · have := ih x (by rw [e]; exact List.mem_cons_of_mem _ h); simp; omega

/-- is a corner's text of the right form? -/
def formOk (ls : List (List UInt8)) : Bool := decide (ls.length ≤ 3) && !(ls.headD []).isEmpty && !(ls.getLastD []).isEmpty && ls.all fun l => l.isEmpty || wholeOk l
/-- one of a corner's parts -/
def partR (ls : List (List UInt8)) (j : Nat) (m : Int) : Int × Int := match ls[j]? with
  | none => (-1, 0)
  | some l => if l.isEmpty then (-1, 0) else placeR l m
structure P3 where
  a : Int
  b : Int
  c : Int
  deriving DecidableEq
def readR (ls : List (List UInt8)) (m : P3) : P3 × Int :=
  if formOk ls then
    if (partR ls 0 m.a).2 ≠ 0 then (⟨0, 0, 0⟩, (partR ls 0 m.a).2)
    else if (partR ls 1 m.b).2 ≠ 0 then (⟨0, 0, 0⟩, (partR ls 1 m.b).2)
    else if (partR ls 2 m.c).2 ≠ 0 then (⟨0, 0, 0⟩, (partR ls 2 m.c).2)
    else (⟨(partR ls 0 m.a).1, (partR ls 1 m.b).1, (partR ls 2 m.c).1⟩, 0)
  else (⟨0, 0, 0⟩, 6)
def cornerR (s : List UInt8) (m : P3) : P3 × Int := readR (split1 47 s) m
end Go.Proofs.YtkdffcoofijhkaaDoor
