/-
  HOW A REFERENCE CUTS A TEXT AND JUDGES ITS PARTS, in plain words. No program in sight.
-/
import Derived.Test.YtkdffcoofijhkaaDoorFaceS
set_option linter.unusedVariables false
set_option linter.unusedSimpArgs false
namespace Go.Proofs.YtkdffcoofijhkaaDoor
open Go

theorem split1_free (c : UInt8) : ∀ u : List UInt8, (∀ x ∈ u, x ≠ c) → split1 c u = [u]
  | [], _ => rfl
  | a :: t, h => by
    have ih := split1_free c t fun x hx => h x (List.mem_cons_of_mem _ hx)
    unfold split1
    rw [if_neg (h a List.mem_cons_self), ih]
theorem split1_cut (c : UInt8) : ∀ u v : List UInt8, (∀ x ∈ u, x ≠ c) → split1 c (u ++ c :: v) = u :: split1 c v
  | [], v, _ => by
    rw [List.nil_append]
    conv => lhs; unfold split1
    rw [if_pos rfl]
  | a :: t, v, h => by
    have ih := split1_cut c t v fun x hx => h x (List.mem_cons_of_mem _ hx)
    rw [List.cons_append]
    conv => lhs; unfold split1
    rw [if_neg (h a List.mem_cons_self), ih]
/-- how far the cutting stands -/
structure CutSt (c : UInt8) (s : List UInt8) (out : List (List UInt8)) (f i : Nat) : Prop where
  fi : f ≤ i
  il : i ≤ s.length
  eq : split1 c s = out ++ split1 c (s.drop f)
  free : ∀ x ∈ (s.drop f).take (i - f), x ≠ c
theorem CutSt.start (c : UInt8) (s : List UInt8) : CutSt c s [] 0 0 := ⟨Nat.le_refl _, Nat.zero_le _, by simp, by simp⟩
theorem drop_at (s : List UInt8) (f i : Nat) (h1 : f ≤ i) (h2 : i < s.length) : s.drop f = (s.drop f).take (i - f) ++ s[i] :: s.drop (i + 1) := by
  have e : s.drop i = s[i] :: s.drop (i + 1) := List.drop_eq_getElem_cons h2
  have e2 : (s.drop f).drop (i - f) = s.drop i := by rw [List.drop_drop]; congr 1; omega
  conv => lhs; rw [← List.take_append_drop (i - f) (s.drop f), e2, e]
theorem CutSt.skip {c : UInt8} {s : List UInt8} {out : List (List UInt8)} {f i : Nat} (h : CutSt c s out f i) (hi : i < s.length) (hc : s[i] ≠ c) : CutSt c s out f (i + 1) := by
  have h1 := h.fi
  refine ⟨by omega, hi, h.eq, fun x hx => ?_⟩
  rw [show i + 1 - f = (i - f) + 1 by omega, List.take_add_one, List.mem_append] at hx
  rcases hx with hx | hx
  · exact h.free x hx
  · rw [List.getElem?_drop, show f + (i - f) = i by omega, List.getElem?_eq_getElem hi] at hx
    simp at hx
    rw [hx]; exact hc
theorem CutSt.hit {c : UInt8} {s : List UInt8} {out : List (List UInt8)} {f i : Nat} (h : CutSt c s out f i) (hi : i < s.length) (hc : s[i] = c) : CutSt c s (out ++ [(s.drop f).take (i - f)]) (i + 1) (i + 1) := by
  have h1 := h.fi
  refine ⟨Nat.le_refl _, hi, ?_, by simp⟩
  have e := drop_at s f i h1 hi
  rw [hc] at e
  rw [h.eq]
  conv => lhs; rw [e]
  rw [split1_cut c _ _ h.free]; simp
theorem CutSt.done {c : UInt8} {s : List UInt8} {out : List (List UInt8)} {f : Nat} (h : CutSt c s out f s.length) : split1 c s = out ++ [s.drop f] := by
  rw [h.eq]
  congr 1
  refine split1_free c _ fun x hx => h.free x ?_
  rw [List.take_of_length_le (by rw [List.length_drop]; omega)]
  exact hx
theorem CutSt.count {c : UInt8} {s : List UInt8} {out : List (List UInt8)} {f i : Nat} (h : CutSt c s out f i) : out.length ≤ s.length := by
  have h1 := congrArg List.length h.eq
  rw [split1_len, List.length_append, split1_len] at h1
  have := List.count_le_length (a := c) (l := s)
  omega
theorem whole_empty : wholeOk [] = false := by decide
/-- a reference's judgement -/
def refForm : List (List UInt8) → Bool
  | [a] => wholeOk a
  | [a, b] => wholeOk a && wholeOk b
  | [a, b, c] => wholeOk a && (b.isEmpty || wholeOk b) && wholeOk c
  | _ => false
theorem whole_full {l : List UInt8} (h : wholeOk l = true) : l.isEmpty = false := by
  cases l with
  | nil => rw [whole_empty] at h; cases h
  | cons a t => rfl
theorem form_ref (ls : List (List UInt8)) (h : ls ≠ []) : formOk ls = refForm ls := by
  have key : ∀ l : List UInt8, (!l.isEmpty && (l.isEmpty || wholeOk l)) = wholeOk l := fun l => by
    cases l with
    | nil => rw [whole_empty]; rfl
    | cons a t => simp
  match ls, h with
  | [a], _ =>
    unfold formOk refForm
    have := key a
    simp only [List.length_cons, List.length_nil, List.headD_cons, List.getLastD_cons, List.getLastD_nil, List.all_cons, List.all_nil, Bool.and_true]
    cases ha : a.isEmpty <;> simp [ha] at this ⊢ <;> exact this
  | [a, b], _ =>
    unfold formOk refForm
    have ka := key a
    have kb := key b
    simp only [List.length_cons, List.length_nil, List.headD_cons, List.getLastD_cons, List.getLastD_nil, List.all_cons, List.all_nil, Bool.and_true]
    cases ha : a.isEmpty <;> cases hb : b.isEmpty <;> simp [ha, hb] at ka kb ⊢ <;> simp [ka, kb]
  | [a, b, c], _ =>
    unfold formOk refForm
    have ka := key a
    have kc := key c
    simp only [List.length_cons, List.length_nil, List.headD_cons, List.getLastD_cons, List.getLastD_nil, List.all_cons, List.all_nil, Bool.and_true]
    cases ha : a.isEmpty <;> cases hc : c.isEmpty <;> simp [ha, hc] at ka kc ⊢ <;> (try simp [ka, kc]) <;> (try rw [Bool.and_assoc])
  | a :: b :: c :: d :: r, _ =>
    unfold formOk refForm
    simp
end Go.Proofs.YtkdffcoofijhkaaDoor
