/-
  A DRAWN REGION WHOSE OPERATIONS ARE PARTLY GUARDED OFF: one that is not carried out may be taken first. Nothing of the program is named here.
-/
import Derived.Test.YtfkkppagbhllgaaBase
set_option linter.unusedVariables false
set_option linter.unusedSimpArgs false
namespace Go.Proofs.Ytfkkppagbhllgaa
open Go.RowKit

theorem wpAnyH_skip {P : Program} {md : Region.Mode} {ops : Array Oper} {Q : Exit → Act → World → Prop} {S : World → Prop} (i : Nat) {d : Option Tmp} {fuel : Nat} {listed : Array Bool} {a : Act} {w : World}
    (h0 : ((ops[i]?).map fun o => (o.dst, Region.wanted o (yielded ops a.tmps))) = some (d, false))
    (hs : Region.noSelect ops = true) (hf : Region.free md ops listed i = true) (hr : (Region.ready md ops listed).contains i = true)
    (hQ : ∀ c a w, Q (.panic c) (a.put d undef) w → Q (.panic c) a w) (hS : S w)
    (h : wpAnyH P md ops Q S fuel (listed.setIfInBounds i true) (a.put d undef) w) : wpAnyH P md ops Q S (fuel + 1) listed a w := by
  cases hi : ops[i]? with
  | none => rw [hi] at h0; cases h0
  | some o =>
    rw [hi] at h0
    simp only [Option.map_some, Option.some.injEq, Prod.mk.injEq] at h0
    obtain ⟨rfl, h1⟩ := h0
    exact wpAnyH_take hi hs hf hr hQ (.inr ⟨h1, rfl⟩) hS h
/-- one that is carried out, its slot told by its number -/
theorem wpAnyH_takeD {P : Program} {md : Region.Mode} {ops : Array Oper} {Q : Exit → Act → World → Prop} {S : World → Prop} (i : Nat) {oi : Oper} {d : Option Tmp} {v : Value} {fuel : Nat} {listed : Array Bool} {a : Act} {w : World}
    (hi : ops[i]? = some oi) (hd : oi.dst = d) (hw : Region.wanted oi (yielded ops a.tmps) = true)
    (hs : Region.noSelect ops = true) (hf : Region.free md ops listed i = true) (hr : (Region.ready md ops listed).contains i = true)
    (hQ : ∀ c a w, Q (.panic c) (a.put d v) w → Q (.panic c) a w) (hy : ∀ w, S w → (execOp a.eval oi).run P w = .ok (.value v) w) (hS : S w)
    (h : wpAnyH P md ops Q S fuel (listed.setIfInBounds i true) (a.put d v) w) : wpAnyH P md ops Q S (fuel + 1) listed a w := by
  subst hd
  exact wpAnyH_take hi hs hf hr hQ (.inl ⟨hw, hy⟩) hS h
end Go.Proofs.Ytfkkppagbhllgaa
