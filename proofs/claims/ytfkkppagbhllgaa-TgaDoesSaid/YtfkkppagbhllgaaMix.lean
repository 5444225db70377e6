/-
  A LOOP IN A GREAT FRAME: the slots that its body writes are told by ONE function of their numbers. Nothing of the program is named here.
-/
import Derived.Test.YtfkkppagbhllgaaBase
set_option linter.unusedVariables false
set_option linter.unusedSimpArgs false
namespace Go.Proofs.Ytfkkppagbhllgaa
open Go.RowKit

/-! ### A loop in a great frame: the slots that the body writes are told by ONE function of their numbers -/
def inR (rs : List (Nat × Nat)) (n : Nat) : Bool := rs.any fun r => Nat.ble r.1 n && Nat.ble n r.2
/-- The frame l, from slot n on, its slots in the ranges rs told by f. -/
def mix (rs : List (Nat × Nat)) (f : Nat → Value) : Nat → List Value → List Value
  | _, [] => []
  | n, v :: l => cond (inR rs n) (f n) v :: mix rs f (n + 1) l
theorem mix_nil (rs : List (Nat × Nat)) (f : Nat → Value) (n : Nat) : mix rs f n [] = [] := rfl
theorem mix_in {rs : List (Nat × Nat)} {f : Nat → Value} {n : Nat} {v : Value} {l : List Value} (h : inR rs n = true) : mix rs f n (v :: l) = f n :: mix rs f (n + 1) l := by simp [mix, h]
theorem mix_out {rs : List (Nat × Nat)} {f : Nat → Value} {n : Nat} {v : Value} {l : List Value} (h : inR rs n = false) : mix rs f n (v :: l) = v :: mix rs f (n + 1) l := by simp [mix, h]
theorem mix_self (rs : List (Nat × Nat)) (f : Nat → Value) : ∀ (n : Nat) (l : List Value), (∀ i v, l[i]? = some v → f (n + i) = v) → mix rs f n l = l
  | _, [], _ => rfl
  | n, v :: l, h => by
    have h0 : f n = v := h 0 v rfl
    rw [mix, h0, mix_self rs f (n + 1) l (fun i u hu => by rw [show n + 1 + i = n + (i + 1) by omega]; exact h (i + 1) u hu)]
    cases inR rs n <;> rfl
/-- The slots of a frame that is written out. -/
def slotsF (l : List Value) (n : Nat) : Value := l.getD n undef
theorem mix_start (rs : List (Nat × Nat)) (l : List Value) : mix rs (slotsF l) 0 l = l :=
  mix_self rs _ 0 l fun i v hv => by simp [slotsF, List.getD_eq_getElem?_getD, hv]
/-- What a round hands on. -/
def MixEnd (rs : List (Nat × Nat)) (l0 : List Value) (ds : List Deferred) (Rel : (Nat → Value) → World → Prop) (mu : (Nat → Value) → World → Nat) (m : Nat) (a : Act) (w : World) : Prop :=
  ∃ f, a = ⟨(mix rs f 0 l0).toArray, ds⟩ ∧ Rel f w ∧ mu f w < m
theorem MixEnd.intro {rs : List (Nat × Nat)} {l0 : List Value} {ds : List Deferred} {Rel : (Nat → Value) → World → Prop} {mu : (Nat → Value) → World → Nat} {m : Nat} {lit : List Value} {w : World}
    (hlit : lit = mix rs (slotsF lit) 0 l0) (hrel : Rel (slotsF lit) w) (hmu : mu (slotsF lit) w < m) : MixEnd rs l0 ds Rel mu m ⟨lit.toArray, ds⟩ w :=
  ⟨slotsF lit, by rw [← hlit], hrel, hmu⟩
/-- The loop: 'rs' the slots that its body writes, 'Rel' what holds at a round's head, 'mu' what each round lowers. -/
theorem wp_loop_mix {P : Program} {c : Code} {Q : Exit → Act → World → Prop} {l0 : List Value} {ds : List Deferred} {w : World} (rs : List (Nat × Nat)) (Rel : (Nat → Value) → World → Prop) (mu : (Nat → Value) → World → Nat)
    (h0 : Rel (slotsF l0) w)
    (round : ∀ f wr, Rel f wr → ∀ K : Act → World → Prop, (∀ a' w', MixEnd rs l0 ds Rel mu (mu f wr) a' w' → K a' w') → c.wp P (Exit.then K Q) ⟨(mix rs f 0 l0).toArray, ds⟩ wr) :
    (Code.loop c).wp P Q ⟨l0.toArray, ds⟩ w := by
  refine wp_loop_ghost (fun n a w' => ∃ f, a = ⟨(mix rs f 0 l0).toArray, ds⟩ ∧ Rel f w' ∧ mu f w' = n) (mu (slotsF l0) w) ⟨slotsF l0, by rw [mix_start], h0, rfl⟩ ?_
  rintro n a w' ⟨f, rfl, hr, rfl⟩
  exact round f w' hr _ fun a' w'' ⟨f', e, h1, h2⟩ => ⟨mu f' w'', h2, f', e, h1, rfl⟩

end Go.Proofs.Ytfkkppagbhllgaa
