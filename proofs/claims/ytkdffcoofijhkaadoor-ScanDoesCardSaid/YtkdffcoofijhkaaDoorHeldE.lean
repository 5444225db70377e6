/-
  A DRAWN REGION THAT ENDS IN ONE OPERATION THAT WAITS FOR ALL OTHERS (a store into what the region has read): behind that one nothing is asked of the cells. Nothing of the program is named here.
-/
import Derived.Test.YtkdffcoofijhkaaDoorBase
import Derived.StillTail
set_option linter.unusedVariables false
set_option linter.unusedSimpArgs false
namespace Go.Proofs.YtkdffcoofijhkaaDoor
open Go.RowKit
section
variable {P : Program} {ops : Array Oper} {Q : Exit → Act → World → Prop} {S : World → Prop} {t : Nat}

/-- whatever comes up next; behind each that is not number t, S holds -/
def EndsIn (P : Program) (ops : Array Oper) (Q : Exit → Act → World → Prop) (S : World → Prop) (t : Nat) : Nat → Array Bool → Act → World → Prop
  | 0, L, a, w => Region.ready .any ops L = [] ∧ Q .normal a w
  | f + 1, L, a, w => (Region.ready .any ops L = [] → Q .normal a w) ∧
    ∀ i ∈ Region.ready .any ops L, wpOp P ops Q i (fun a' w' => (i = t ∨ S w') ∧ EndsIn P ops Q S t f (L.setIfInBounds i true) a' w') a w
theorem EndsIn.any : ∀ (f : Nat) (L : Array Bool) (a : Act) (w : World), EndsIn P ops Q S t f L a w → wpAny P .any ops Q f L a w
  | 0, _, _, _, h => h
  | f + 1, _, _, _, h => ⟨h.1, fun i hi => wpOp_mono (fun a' w' h' => EndsIn.any f _ a' w' h'.2) (h.2 i hi)⟩
theorem EndsIn.first {i : Nat} {o : Oper} {v : Value} (hi : ops[i]? = some o) (hsel : ∀ (j : Nat) (o : Oper) cs b, ops[j]? = some o → o.op ≠ .select cs b)
    (hQ : ∀ c a w, Q (.panic c) (a.put o.dst v) w → Q (.panic c) a w) (hwt : Region.waitsFor .any ops t i = true) :
    ∀ (f : Nat) (L : Array Bool) (a : Act) (w : World),
      (∀ j oj, ops[j]? = some oj → j ≠ i → L.getD j true = false → (∀ e ∈ oj.after, Region.binds .any e = true → e.on ≠ i) → o.apart ops oj = true) →
      i ∈ Region.ready .any ops L → YieldsIf P ops S o v a → S w →
      EndsIn P ops Q S t f (L.setIfInBounds i true) (a.put o.dst v) w → EndsIn P ops Q S t (f + 1) L a w
  | f, L, a, w, hap, hr, hy, hS, H => by
    refine ⟨fun h => (by rw [h] at hr; cases hr), fun j hj => ?_⟩
    by_cases hji : j = i
    · subst hji; exact hy.wpOp hi hS ⟨.inr hS, H⟩
    obtain ⟨hun, oj, hoj, hall⟩ := mem_ready.1 hj
    have hno : ∀ e ∈ oj.after, Region.binds .any e = true → e.on ≠ i := fun e he hb heq => by
      have h1 := hall e he hb
      rw [heq, getD_both (mem_ready.1 hr).1] at h1
      cases h1
    cases f with
    | zero =>
      have := ready_mono hj hji
      rw [H.1] at this
      cases this
    | succ f =>
      have hjt : j ≠ t := by
        rintro rfl
        obtain ⟨ot, hot, e, he, hb, hon⟩ := Region.waitsFor_spec hwt
        obtain rfl : oj = ot := Option.some.inj (hoj.symm.trans hot)
        exact hno e he hb hon
      have h2 := wpOp_putIf hoj (hap j oj hoj hji hun hno) (fun cs b => hsel i o cs b hi) (fun cs b => hsel j oj cs b hoj) hQ hy (H.2 j (ready_mono hj hji))
      have hap' : ∀ k ok, ops[k]? = some ok → k ≠ i → (L.setIfInBounds j true).getD k true = false → (∀ e ∈ ok.after, Region.binds .any e = true → e.on ≠ i) → o.apart ops ok = true := fun k ok hk hki hu hn => by
        refine hap k ok hk hki ?_ hn
        by_cases hjk : j = k
        · subst hjk; exact hun
        · rw [getD_set_ne true hjk] at hu; exact hu
      refine wpOp_mono (fun a' w' h3 => ?_) h2
      have hS' : S w' := h3.2.1.resolve_left hjt
      refine ⟨.inr hS', EndsIn.first hi hsel hQ hwt f (L.setIfInBounds j true) a' w' hap' (ready_mono hr (Ne.symm hji)) h3.1 hS' ?_⟩
      rw [Array.setIfInBounds_comm _ _ hji]
      exact h3.2.2
theorem EndsIn.take (i : Nat) {o : Oper} {d : Option Tmp} {v : Value} {f : Nat} {L : Array Bool} {a : Act} {w : World}
    (hi : ops[i]? = some o) (hd : o.dst = d) (hw : Region.wanted o (yielded ops a.tmps) = true)
    (hs : Region.noSelect ops = true) (hf : Region.free .any ops L i = true) (hr : (Region.ready .any ops L).contains i = true) (hwt : Region.waitsFor .any ops t i = true)
    (hQ : ∀ c a w, Q (.panic c) (a.put d v) w → Q (.panic c) a w) (hy : ∀ w, S w → (execOp a.eval o).run P w = .ok (.value v) w) (hS : S w)
    (h : EndsIn P ops Q S t f (L.setIfInBounds i true) (a.put d v) w) : EndsIn P ops Q S t (f + 1) L a w := by
  subst hd
  exact EndsIn.first hi (Region.noSelect_spec hs) hQ hwt f L a w (Region.free_spec hi hf) (by simpa using hr) (.inl ⟨hw, hy⟩) hS h
theorem EndsIn.step (i : Nat) {o : Oper} {f : Nat} {L : Array Bool} {a : Act} {w : World} (hr : Region.ready .any ops L = [i]) (ho : ops[i]? = some o)
    (h : ∀ K : Act → World → Prop, Shut (∀ a w, S w → (S w → EndsIn P ops Q S t f (L.setIfInBounds i true) a w) → K a w) → if Region.wanted o (yielded ops a.tmps) = true then Oper.wp P o a w K Q else K (a.put o.dst undef) w) :
    EndsIn P ops Q S t (f + 1) L a w := by
  refine ⟨fun h0 => (by rw [hr] at h0; cases h0), fun j hj => ?_⟩
  rw [hr] at hj
  obtain rfl := List.mem_singleton.1 hj
  exact wpOp_step ho (fun K hK => h K (fun a w hS hW => hK a w ⟨.inr hS, hW hS⟩))
theorem EndsIn.last {o : Oper} {f : Nat} {L : Array Bool} {a : Act} {w : World} (hr : Region.ready .any ops L = [t]) (hr2 : Region.ready .any ops (L.setIfInBounds t true) = []) (ho : ops[t]? = some o)
    (h : ∀ K : Act → World → Prop, Shut (∀ a w, Q .normal a w → K a w) → if Region.wanted o (yielded ops a.tmps) = true then Oper.wp P o a w K Q else K (a.put o.dst undef) w) :
    EndsIn P ops Q S t (f + 1) L a w := by
  refine ⟨fun h0 => (by rw [hr] at h0; cases h0), fun j hj => ?_⟩
  rw [hr] at hj
  obtain rfl := List.mem_singleton.1 hj
  exact wpOp_step ho (fun K hK => h K (fun a w hN => hK a w ⟨.inl rfl, by
    cases f with
    | zero => exact ⟨hr2, hN⟩
    | succ f => exact ⟨fun _ => hN, by rw [hr2]; simp⟩⟩))
theorem wp_endsIn {id : Nat} {a : Act} {w : World} (t : Nat) (S : World → Prop) (hm : P.follows .mixedOrders = true) (hS : S w.drew)
    (h : S w.drew → EndsIn P ops Q S t ops.size (Array.replicate ops.size false) a w.drew) : (Code.region id ops true).wp P Q a w :=
  wp_region_any hm (EndsIn.any _ _ _ _ (h hS))
end
end Go.Proofs.YtkdffcoofijhkaaDoor
