/-
  A LOOP WHOSE ROUND HOLDS A RANGE OVER A FUNCTION: its frame is told slot by slot, its marks are told. Nothing of the program is named here.
-/
import Derived.Test.YtfkkppagbhllgaaMix
import Derived.RangeFuncNested
import Derived.RangeFuncLeaves
import Derived.Sort.LoopGhostIn
import Derived.Scope
set_option linter.unusedVariables false
set_option linter.unusedSimpArgs false
namespace Go.Proofs.Ytfkkppagbhllgaa
open Go.RowKit

/-- What a round hands on, the deferred calls with it. -/
def MixEndD (rs : List (Nat × Nat)) (l0 : List Value) (Rel : (Nat → Value) → List Deferred → World → Prop) (mu : (Nat → Value) → Nat) (m : Nat) (a : Act) (w : World) : Prop :=
  ∃ f ds, a = ⟨(mix rs f 0 l0).toArray, ds⟩ ∧ Rel f ds w ∧ mu f < m
theorem MixEndD.intro {rs : List (Nat × Nat)} {l0 : List Value} {ds : List Deferred} {Rel : (Nat → Value) → List Deferred → World → Prop} {mu : (Nat → Value) → Nat} {m : Nat} {lit : List Value} {w : World}
    (hlit : lit = mix rs (slotsF lit) 0 l0) (hrel : Rel (slotsF lit) ds w) (hmu : mu (slotsF lit) < m) : MixEndD rs l0 Rel mu m ⟨lit.toArray, ds⟩ w :=
  ⟨slotsF lit, ds, by rw [← hlit], hrel, hmu⟩
theorem wpIn_loop_mixD {F : Fence} {n : Nat} {P : Program} {c : Code} {Q : Exit → Act → World → Prop} {l0 : List Value} {ds0 : List Deferred} {w : World} (rs : List (Nat × Nat)) (Rel : (Nat → Value) → List Deferred → World → Prop) (mu : (Nat → Value) → Nat)
    (h0 : Rel (slotsF l0) ds0 w)
    (round : ∀ f ds wr, Rel f ds wr → ∀ K : Act → World → Prop, (∀ a' w', MixEndD rs l0 Rel mu (mu f) a' w' → K a' w') → c.wpIn F n P (Exit.then K Q) ⟨(mix rs f 0 l0).toArray, ds⟩ wr) :
    (Code.loop c).wpIn F n P Q ⟨l0.toArray, ds0⟩ w := by
  refine wpIn_loop_ghost (fun m a w' => ∃ f ds, a = ⟨(mix rs f 0 l0).toArray, ds⟩ ∧ Rel f ds w' ∧ mu f = m) (mu (slotsF l0)) ⟨slotsF l0, ds0, by rw [mix_start], h0, rfl⟩ ?_
  rintro m a w' ⟨f, ds, rfl, hr, rfl⟩
  exact round f ds w' hr _ fun a' w'' ⟨f', ds', e, h1, h2⟩ => ⟨mu f', h2, f', ds', e, h1, rfl⟩

/-- the marks of loops that are over: each one's block is empty; the later, the higher -/
def Marks (B : Nat) (w : World) : List Deferred → Prop
  | [] => True
  | d :: ds => ∃ D, d = { target := .collected D, args := #[] } ∧ B ≤ D ∧ w.heap[D]? = some (.deferred (some [])) ∧ (∀ d' ∈ ds, ∃ D', d' = { target := .collected D', args := #[] } ∧ D' < D) ∧ Marks B w ds
theorem Marks.kept {B : Nat} {w w' : World} : ∀ {ds : List Deferred}, Marks B w ds → (∀ D, w.heap[D]? = some (.deferred (some [])) → ({ target := .collected D, args := #[] } : Deferred) ∈ ds → w'.heap[D]? = some (.deferred (some []))) → Marks B w' ds
  | [], _, _ => trivial
  | d :: ds, ⟨D, e, hB, hk, hl, hm⟩, h => ⟨D, e, hB, h D hk (by rw [e]; exact List.mem_cons_self), hl, hm.kept fun D' h' hm' => h D' h' (List.mem_cons_of_mem _ hm')⟩
theorem Marks.lt {B : Nat} {w : World} : ∀ {ds : List Deferred}, Marks B w ds → ∀ d' ∈ ds, ∃ D', d' = { target := .collected D', args := #[] } ∧ D' < w.heap.size
  | [], _, d', h => by simp at h
  | d :: ds, ⟨D, e, hB, hk, hl, hm⟩, d', h => by
    rcases List.mem_cons.1 h with rfl | h
    · exact ⟨D, e, (Array.getElem?_eq_some_iff.1 hk).1⟩
    · exact hm.lt d' h
theorem Marks.below {B D0 : Nat} {w w' : World} {ds : List Deferred} (h : Marks B w ds) (hb : Below D0 w w') (hD : w.heap.size ≤ D0) : Marks B w' ds :=
  h.kept fun D hk _ => by rw [hb.block D (by have := (Array.getElem?_eq_some_iff.1 hk).1; omega)]; exact hk
theorem Marks.setCell {B : Nat} {w : World} {ds : List Deferred} (h : Marks B w ds) (p : Addr) (u v : Value) (hp : w.cell? p = some v) : Marks B (w.setCell p u) ds :=
  h.kept fun D hk _ => by
    by_cases e : D = p.block
    · subst e
      simp [World.cell?, hk] at hp
    · rw [heap_setCell_other _ _ _ _ (fun h => e h)]; exact hk
theorem Marks.drew {B : Nat} {w : World} {ds : List Deferred} (h : Marks B w ds) : Marks B w.drew ds := h.kept fun _ h _ => h

theorem putObj_cell {w : World} {D : Nat} {o o' : Obj} (hk : w.heap[D]? = some o) (ho : o.isCells = false) (p : Addr) (v : Value) (h : w.cell? p = some v) : (w.putObj D o').cell? p = some v := by
  rw [← h]
  refine World.cell?_of_block ?_
  have hne : p.block ≠ D := fun e => by
    subst e
    cases o <;> first | (simp [Obj.isCells] at ho; done) | simp [World.cell?, hk] at h
  exact (grownBy_putObj' w D o').block p.block (World.block_lt_of_cell? w p h) (fun e => hne (by cases e; rfl))

/-- The marks are taken up one by one; nothing that lies below B turns, nor any cell. -/
theorem leaves_marks {F : Fence} {n : Nat} {P : Program} {fn : Func} {tmps : Array Value} {R : Ending → World → Prop} {B : Nat} : ∀ (ds : List Deferred) (w : World), Marks B w ds →
    (∀ w', Below B w w' → (∀ p v, w.cell? p = some v → w'.cell? p = some v) → LeavesInM F n P fn tmps R [] .returning w') → LeavesInM F n P fn tmps R ds .returning w
  | [], w, _, h => h w (Below.refl _ _) fun _ _ h => h
  | d :: ds, w, ⟨D, e, hB, hk, hl, hm⟩, h => by
    subst e
    refine ⟨by simp, .inl ⟨D, _, rfl, run_takeDeferred hk, ?_⟩⟩
    have hg := grownBy_putObj' w D (.deferred none)
    refine leaves_marks ds _ (hm.kept fun D' hk' hm' => ?_) fun w' hb hc => h w' ?_ fun p v hp => hc p v (putObj_cell hk rfl p v hp)
    · obtain ⟨D'', e, hlt⟩ := hl _ hm'
      injection e with e1 _
      injection e1 with e1
      subst e1
      rw [hg.block D' (Array.getElem?_eq_some_iff.1 hk').1 (fun e => by injection e with e; omega)]; exact hk'
    · refine Below.trans ((Below.refl B w).grown hg (Nat.le_trans hB (Nat.le_of_lt (Array.getElem?_eq_some_iff.1 hk).1)) (fun k hk => by cases hk; exact hB)) hb

/-- A store below B, on both sides. -/
theorem below_setCells {B : Nat} {w w' : World} (h : Below B w w') (p : Addr) (u : Value) (hp : p.block < B) : Below B (w.setCell p u) (w'.setCell p u) := by
  refine ⟨h.os, h.tape, h.output, by simpa using h.size, fun k hk => ?_⟩
  have hb := h.block k hk
  simp only [World.setCell, Array.getElem?_modify]
  rw [hb]
theorem wpIn_scope_wide {n : Nat} {P : Program} {c : Code} {Q : Exit → Act → World → Prop} {a : Act} {w : World} (h : c.wpIn Fence.wide n P (Exit.noGoto Q) a w) : (Code.scope c).wpIn Fence.wide n P Q a w :=
  wpIn_wide.2 (wp_scope_straight (wpIn_wide.1 h))
end Go.Proofs.Ytfkkppagbhllgaa
