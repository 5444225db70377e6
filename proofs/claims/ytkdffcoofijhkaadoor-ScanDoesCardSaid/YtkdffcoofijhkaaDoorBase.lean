/-
  WORDS FOR MEMORY: a slice that reads as a list of cells (nil let in); a list of ints in memory. Nothing of the program is named here.
-/
import Derived.WalkKit
import Derived.WalkLawsBesides
import Derived.WalkSpells
import Derived.WalkSmall
import Derived.BigQuiet
import Derived.BigGuardPart
import Derived.Deep.QuietTactic
import Derived.Deep.DeepFit
import Derived.Deep.LoopGhost
import Derived.Deep.AppendLies
import Derived.Deep.Draws
import Derived.Maps.AppendAt
import Derived.Laws.CopyOwn
import Derived.Deep.OwnRows
import Derived.Lib.Hide
import Derived.Deep.RegionHeld3
import Derived.Deep.RegionWith
import Derived.Deep.DrawnRows
set_option linter.unusedVariables false
set_option linter.unusedSimpArgs false
namespace Go.Proofs.YtkdffcoofijhkaaDoor
open Go.RowKit

theorem ret_bool {a b : Bool} (h : a = b) : Ending.returned (.bool a) = .returned (.bool b) := by rw [h]
theorem ret_int {k : IntKind} {a b : Int} (h : a = b) : Ending.returned (.int k a) = .returned (.int k b) := by rw [h]

/-- A call of a function that has a body enters it. -/
theorem run_callFunc_go {P : Program} {f : FuncId} {fn : Func} (hf : P.funcs[f]? = some fn) (hn : (fn.name == "runtime.NumGoroutine") = false) (hb : fn.body.isNone = false) :
    ∀ (args : Array Value) (w : World), (callFunc f args).run P w = .ok (.enter f args) w := by
  intro args w
  have h1 : ¬ fn.name = "runtime.NumGoroutine" := by simpa using hn
  have h2 : ¬ fn.body = none := fun e => by rw [e] at hb; cases hb
  simp [callFunc, hf, h1, h2]

theorem addr_block (a : Addr) (n : Nat) : (a.add n).block = a.block := by unfold Addr.add; split <;> rfl
theorem addr_add_add (a : Addr) (i j : Nat) : (a.add i).add j = a.add (i + j) := by
  unfold Addr.add
  by_cases hi : i = 0 <;> by_cases hj : j = 0 <;> simp [hi, hj, Nat.add_assoc]
theorem addr_lit (g n : Nat) : (⟨g, 0, none⟩ : Addr).add n = ⟨g, n, none⟩ := by unfold Addr.add; split <;> simp_all

/-- The slice value '.slice A n c' holds the cells xs ('size' cells an element); its block lies below B. -/
def Rd (w : World) (B size : Nat) (A : Option Addr) (n : Nat) (xs : List Value) : Prop :=
  xs.length = n * size ∧ (0 < n → ∃ ad, A = some ad ∧ ad.block < B ∧ ∀ j u, xs[j]? = some u → w.cell? (ad.add j) = some u)

section
variable {w w' : World} {B B' size n : Nat} {A : Option Addr} {xs : List Value}
theorem Rd.nil : Rd w B size A 0 [] := ⟨by simp, fun h => absurd h (by omega)⟩
theorem Rd.keep (h : Rd w B size A n xs) (hk : ∀ p : Addr, p.block < B → w'.cell? p = w.cell? p) : Rd w' B size A n xs :=
  ⟨h.1, fun hn => by
    obtain ⟨ad, e, hb, hc⟩ := h.2 hn
    exact ⟨ad, e, hb, fun j u hu => (hk _ (by rw [addr_block]; exact hb)).trans (hc j u hu)⟩⟩
theorem Rd.more (h : Rd w B size A n xs) (hB : B ≤ B') : Rd w B' size A n xs :=
  ⟨h.1, fun hn => by
    obtain ⟨ad, e, hb, hc⟩ := h.2 hn
    exact ⟨ad, e, Nat.lt_of_lt_of_le hb hB, hc⟩⟩
theorem Rd.below (h : Rd w B size A n xs) {b : Nat} (hb : Below b w w') (hB : B ≤ b) : Rd w' B size A n xs := h.keep fun _ hp => hb.cell (Nat.lt_of_lt_of_le hp hB)
theorem Rd.drew (h : Rd w B size A n xs) : Rd w.drew B size A n xs := h
theorem Rd.drewN (h : Rd w B size A n xs) (k : Nat) : Rd (w.drewN k) B size A n xs := h
theorem Rd.alloc (h : Rd w B size A n xs) (hB : B ≤ w.heap.size) (o : Obj) : Rd (w.alloc o) B size A n xs := h.keep fun p hp => World.cell?_alloc_lt w o p (by omega)
theorem Rd.setCell (h : Rd w B size A n xs) {p : Addr} (hB : B ≤ p.block) (u : Value) : Rd (w.setCell p u) B size A n xs :=
  h.keep fun q hq => World.cell?_setCell_other w p q u (fun e => by subst e; omega)
theorem Rd.of_own {base : Nat} {e : TypeId} {c : Nat} (h : w.ownsRow base e size (.slice A n c) n xs) : Rd w w.heap.size size A n xs := by
  refine ⟨h.1, fun hn => ?_⟩
  obtain ⟨g, cap, hv, _, hlt⟩ := h.form hn
  have hA : A = some ⟨g, 0, none⟩ := by injection hv
  subst hA
  exact ⟨_, rfl, hlt, h.cells (g := g) rfl⟩
/-- A cut, its length not 0. -/
theorem Rd.cut (h : Rd w B size A n xs) {k m : Nat} (hm : 0 < m) (hk : k + m ≤ n) : ∃ ad, A = some ad ∧ Rd w B size (some (ad.add (k * size))) m ((xs.drop (k * size)).take (m * size)) := by
  obtain ⟨ad, e, hb, hc⟩ := h.2 (by omega)
  have hl : k * size + m * size ≤ n * size := by rw [← Nat.add_mul]; exact Nat.mul_le_mul_right _ hk
  refine ⟨ad, e, ?_, fun _ => ⟨_, rfl, by rw [addr_block]; exact hb, fun j u hu => ?_⟩⟩
  · simp only [List.length_take, List.length_drop, h.1]; omega
  · rw [addr_add_add]
    rw [List.getElem?_take] at hu
    split at hu
    · exact hc _ u (by rw [← hu, List.getElem?_drop])
    · cases hu
theorem Rd.at1 {k : Nat} (h : Rd w B 1 A n xs) (hk : k < n) : ∃ ad u, A = some ad ∧ ad.block < B ∧ xs[k]? = some u ∧ w.cell? (ad.add k) = some u := by
  obtain ⟨ad, e, hb, hc⟩ := h.2 (by omega)
  have hl : k < xs.length := by have := h.1; omega
  exact ⟨ad, xs[k], e, hb, List.getElem?_eq_getElem hl, hc k _ (List.getElem?_eq_getElem hl)⟩
end

/-- A list of ints, each within 64 bits. -/
def I64 (xs : List Int) : Prop := ∀ x ∈ xs, -9223372036854775808 ≤ x ∧ x ≤ 9223372036854775807
def cellsI (xs : List Int) : List Value := xs.map (Value.int .i64)
theorem cellsI_length (xs : List Int) : (cellsI xs).length = xs.length := by simp [cellsI]
theorem cellsI_get (xs : List Int) (k : Nat) : (cellsI xs)[k]? = xs[k]?.map (Value.int .i64) := by simp [cellsI]
theorem cellsI_one (xs : List Int) : ∀ u ∈ cellsI xs, u.oneCell' = true := by
  intro u hu
  obtain ⟨x, _, rfl⟩ := List.mem_map.1 hu
  rfl

/-- The slice '.slice A n c' reads as the ints xs; its block lies below B. -/
structure Ints (w : World) (B : Nat) (A : Option Addr) (n : Nat) (xs : List Int) : Prop where
  rd : Rd w B 1 A n (cellsI xs)
  i64 : I64 xs
  len : n ≤ 9223372036854775807

section
variable {w w' : World} {B B' n : Nat} {A : Option Addr} {xs : List Int}
theorem Ints.length (h : Ints w B A n xs) : xs.length = n := by have := h.rd.1; rw [cellsI_length] at this; omega
theorem Ints.get {k : Nat} (h : Ints w B A n xs) (hk : k < n) : ∃ ad x, A = some ad ∧ ad.block < B ∧ xs[k]? = some x ∧ x ∈ xs ∧ w.cell? (ad.add k) = some (.int .i64 x) ∧ -9223372036854775808 ≤ x ∧ x ≤ 9223372036854775807 := by
  obtain ⟨ad, u, e, hb, hu, hc⟩ := h.rd.at1 hk
  rw [cellsI_get] at hu
  cases hx : xs[k]? with
  | none => simp [hx] at hu
  | some x =>
    simp only [hx, Option.map_some, Option.some.injEq] at hu
    have hm := List.mem_of_getElem? hx
    exact ⟨ad, x, e, hb, rfl, hm, hu ▸ hc, (h.i64 x hm).1, (h.i64 x hm).2⟩
theorem Ints.below (h : Ints w B A n xs) {b : Nat} (hb : Below b w w') (hB : B ≤ b) : Ints w' B A n xs := ⟨h.rd.below hb hB, h.i64, h.len⟩
theorem Ints.more (h : Ints w B A n xs) (hB : B ≤ B') : Ints w B' A n xs := ⟨h.rd.more hB, h.i64, h.len⟩
theorem Ints.cut (h : Ints w B A n xs) {k m : Nat} (hm : 0 < m) (hk : k + m ≤ n) : ∃ ad, A = some ad ∧ Ints w B (some (ad.add k)) m ((xs.drop k).take m) := by
  obtain ⟨ad, e, hr⟩ := h.rd.cut hm hk
  refine ⟨ad, e, by simpa [cellsI, List.map_take, List.map_drop] using hr, fun x hx => h.i64 x (List.mem_of_mem_drop (List.mem_of_mem_take hx)), by have := h.len; omega⟩
end

theorem take_snoc' {α : Type} (l : List α) (k : Nat) (x : α) (h : l[k]? = some x) : l.take (k + 1) = l.take k ++ [x] := by
  rw [List.take_add_one, h]; rfl
theorem drop_cons' {α : Type} (l : List α) (k : Nat) (x : α) (h : l[k]? = some x) : l.drop k = x :: l.drop (k + 1) := by
  obtain ⟨hk, rfl⟩ := List.getElem?_eq_some_iff.1 h
  exact List.drop_eq_getElem_cons hk

theorem own_shape {w : World} {base : Nat} {e : TypeId} {size : Nat} {v : Value} {n : Nat} {xs : List Value} (h : w.ownsRow base e size v n xs) : ∃ A c, v = .slice A n c := by
  rcases h.2 with ⟨hv, h0⟩ | ⟨g, cap, cur, hv, _⟩
  · subst h0; exact ⟨none, 0, hv⟩
  · exact ⟨_, cap, hv⟩
theorem own_mono {w : World} {base base' : Nat} {e : TypeId} {size : Nat} {v : Value} {n : Nat} {xs : List Value} (h : w.ownsRow base e size v n xs) (hb : base' ≤ base) : w.ownsRow base' e size v n xs := by
  obtain ⟨h1, h2⟩ := h
  refine ⟨h1, ?_⟩
  rcases h2 with h2 | ⟨g, cap, cur, hv, hg, r⟩
  · exact .inl h2
  · exact .inr ⟨g, cap, cur, hv, Nat.le_trans hb hg, r⟩
/-- a row of the call's own is kept where another block is written -/
theorem own_kept {w w' : World} {base g : Nat} {e : TypeId} {size : Nat} {v : Value} {n : Nat} {xs : List Value} (h : w.ownsRow base e size v n xs) (hg : w.grownBy w' (some g)) (hb : g < base) : w'.ownsRow base e size v n xs :=
  h.kept hg (.inr fun e' => by have := h.lt g e'; omega)
theorem own_below {w w' : World} {base B : Nat} {e : TypeId} {size : Nat} {v : Value} {n : Nat} {xs : List Value} (h : w.ownsRow base e size v n xs) (hb : Below B w w') (hB : w.heap.size ≤ B) : w'.ownsRow base e size v n xs :=
  h.kept (row := none) ⟨hb.os, hb.tape, hb.output, hb.size, fun k hk _ => hb.block k (by omega)⟩ (by cases v.ownBlock <;> simp)

/-- copy(dst, src), elements of one cell, dst the head of a row of the call's own, src not shorter than what is copied: at the goal where the walk stops. -/
theorem upon_copy {P : Program} {o : Oper} {a : Act} {next : Act → World → Prop} {Q : Exit → Act → World → Prop} {W : World} {dT sT ty : TypeId} {dp sp : Option Addr} {dLen dCap sLen sCap : Nat}
    (elem : TypeId) (hu : P.underlying dT = some (.slice elem)) (hs : (P.info? elem).map (·.size) = some 1) (g : Nat) (cur : List Value) (t : TypeId) (cs : List Value) (B : Nat) (w0 : World)
    (hn : cs.length = Nat.min sLen dLen) (hd : dp = some ⟨g, 0, none⟩) (hg : W.heap[g]? = some (.cells cur.toArray t (0, 0))) (hsrc : Rd W B 1 sp cs.length cs) (hfit : cs.length ≤ cur.length) (h1 : ∀ v ∈ cs, v.oneCell' = true) (hb : Below B w0 W) (hBg : B ≤ g)
    (h : ∀ w', w'.heap[g]? = some (.cells (cs ++ cur.drop cs.length).toArray t (0, 0)) → Below B w0 w' → W.grownBy w' (some g) → next (a.put o.dst (goInt cs.length)) w') :
    o.upon P a next Q (((Builtin.copy_ #[dT, sT] ty #[.slice dp dLen dCap, .slice sp sLen sCap]).run P W).andThen fun v w' => .ok (.value v) w') := by
  subst hd
  by_cases h0 : cs.length = 0
  · obtain rfl : cs = [] := List.eq_nil_of_length_eq_zero h0
    rw [run_copy_none (P := P) W dT sT ty elem _ _ dLen dCap sLen sCap hu hs (by simpa using hn.symm)]
    exact h W (by simpa using hg) hb (World.grownBy.refl _ _)
  · obtain ⟨ad, rfl, _, hc⟩ := hsrc.2 (by omega)
    rw [run_copy_row (P := P) W dT sT ty elem g 0 dLen dCap ad sLen sCap cur.toArray t cs hu hs hg hn hc (by simpa using hfit) h1]
    refine h _ ?_ (below_setRow hb hBg _) ⟨rfl, rfl, rfl, by simp [World.setRow], fun k _ hk => setRow_other W g k _ (fun e => hk (by rw [e]))⟩
    have := setRow_heap W g cur.toArray ((cur.toArray.toList.take 0 ++ cs ++ cur.toArray.toList.drop (0 + cs.length)).toArray) t _ hg
    simpa using this

end Go.Proofs.YtkdffcoofijhkaaDoor
