/-
  WORDS FOR MEMORY: a slice that reads as a list of cells (nil let in); a list of ints in memory. Nothing of the program is named here.
-/
import Derived.Test.YtfkkppagbhllgaaGz1
import Derived.WalkKit
import Derived.WalkLawsBesides
import Derived.WalkSpells
import Derived.WalkSmall
import Derived.BigQuiet
import Derived.BigGuardPart
import Derived.Deep.QuietTactic
import Derived.Deep.DeepFit
import Derived.Deep.LoopGhost
import Derived.Deep.AppendLies
import Derived.Deep.Draws
import Derived.Maps.AppendAt
import Derived.Laws.CopyOwn
import Derived.Deep.OwnRows
import Derived.Lib.Hide
import Derived.Deep.RegionHeld3
import Derived.Deep.RegionWith
import Derived.Deep.DrawnRows
import Derived.Laws.Concat
import Derived.Laws.RangeAny
import Derived.Laws.DeepStrings4
import Derived.Test.YtfkkppagbhllgaaProg
import Derived.RangeFuncNested
import Derived.RangeFuncBound
import Derived.RangeFuncCalls
import Derived.RangeFuncLeaves
import Derived.Shelf.Abstract
import Derived.Shelf.RegionOpen
import Derived.OwnWalkIn
import Derived.TacticsInMore
import Derived.LoopNIn
import Derived.LoopIn
import Derived.Sort.LoopGhostIn
import Derived.Test.YtfkkppagbhllgaaShelf
import Derived.Lib.FrozenHead2
import Derived.Lib.OthersKept
import Derived.RangeFuncOwn
import Derived.Scope
import Derived.Laws.EntriesVeiled
import Derived.Defers
import Derived.Recover
import Derived.Laws.Pointers
import Derived.Laws.IdiomStrings
import Derived.Lib.OwnBridge
set_option linter.unusedVariables false
set_option linter.unusedSimpArgs false
namespace Go.Proofs.Ytfkkppagbhllgaa
open Go.RowKit

theorem ret_bool {a b : Bool} (h : a = b) : Ending.returned (.bool a) = .returned (.bool b) := by rw [h]
theorem ret_int {k : IntKind} {a b : Int} (h : a = b) : Ending.returned (.int k a) = .returned (.int k b) := by rw [h]

/-- A call of a function that has a body enters it. -/
theorem run_callFunc_go {P : Program} {f : FuncId} {fn : Func} (hf : P.funcs[f]? = some fn) (hn : (fn.name == "runtime.NumGoroutine") = false) (hb : fn.body.isNone = false) :
    ∀ (args : Array Value) (w : World), (callFunc f args).run P w = .ok (.enter f args) w := by
  intro args w
  have h1 : ¬ fn.name = "runtime.NumGoroutine" := by simpa using hn
  have h2 : ¬ fn.body = none := fun e => by rw [e] at hb; cases hb
  simp [callFunc, hf, h1, h2]

theorem addr_block (a : Addr) (n : Nat) : (a.add n).block = a.block := by unfold Addr.add; split <;> rfl
theorem addr_add_add (a : Addr) (i j : Nat) : (a.add i).add j = a.add (i + j) := by
  unfold Addr.add
  by_cases hi : i = 0 <;> by_cases hj : j = 0 <;> simp [hi, hj, Nat.add_assoc]
theorem addr_lit (g n : Nat) : (⟨g, 0, none⟩ : Addr).add n = ⟨g, n, none⟩ := by unfold Addr.add; split <;> simp_all

/-- The slice value '.slice A n c' holds the cells xs ('size' cells an element); its block lies below B. -/
def Rd (w : World) (B size : Nat) (A : Option Addr) (n : Nat) (xs : List Value) : Prop :=
  xs.length = n * size ∧ (0 < n → ∃ ad, A = some ad ∧ ad.block < B ∧ ∀ j u, xs[j]? = some u → w.cell? (ad.add j) = some u)

section
variable {w w' : World} {B B' size n : Nat} {A : Option Addr} {xs : List Value}
theorem Rd.nil : Rd w B size A 0 [] := ⟨by simp, fun h => absurd h (by omega)⟩
theorem Rd.keep (h : Rd w B size A n xs) (hk : ∀ p : Addr, p.block < B → w'.cell? p = w.cell? p) : Rd w' B size A n xs :=
  ⟨h.1, fun hn => by
    obtain ⟨ad, e, hb, hc⟩ := h.2 hn
    exact ⟨ad, e, hb, fun j u hu => (hk _ (by rw [addr_block]; exact hb)).trans (hc j u hu)⟩⟩
theorem Rd.more (h : Rd w B size A n xs) (hB : B ≤ B') : Rd w B' size A n xs :=
  ⟨h.1, fun hn => by
    obtain ⟨ad, e, hb, hc⟩ := h.2 hn
    exact ⟨ad, e, Nat.lt_of_lt_of_le hb hB, hc⟩⟩
theorem Rd.below (h : Rd w B size A n xs) {b : Nat} (hb : Below b w w') (hB : B ≤ b) : Rd w' B size A n xs := h.keep fun _ hp => hb.cell (Nat.lt_of_lt_of_le hp hB)
theorem Rd.drew (h : Rd w B size A n xs) : Rd w.drew B size A n xs := h
theorem Rd.drewN (h : Rd w B size A n xs) (k : Nat) : Rd (w.drewN k) B size A n xs := h
theorem Rd.alloc (h : Rd w B size A n xs) (hB : B ≤ w.heap.size) (o : Obj) : Rd (w.alloc o) B size A n xs := h.keep fun p hp => World.cell?_alloc_lt w o p (by omega)
theorem Rd.setCell (h : Rd w B size A n xs) {p : Addr} (hB : B ≤ p.block) (u : Value) : Rd (w.setCell p u) B size A n xs :=
  h.keep fun q hq => World.cell?_setCell_other w p q u (fun e => by subst e; omega)
theorem Rd.of_own {base : Nat} {e : TypeId} {c : Nat} (h : w.ownsRow base e size (.slice A n c) n xs) : Rd w w.heap.size size A n xs := by
  refine ⟨h.1, fun hn => ?_⟩
  obtain ⟨g, cap, hv, _, hlt⟩ := h.form hn
  have hA : A = some ⟨g, 0, none⟩ := by injection hv
  subst hA
  exact ⟨_, rfl, hlt, h.cells (g := g) rfl⟩
/-- A cut, its length not 0. -/
theorem Rd.cut (h : Rd w B size A n xs) {k m : Nat} (hm : 0 < m) (hk : k + m ≤ n) : ∃ ad, A = some ad ∧ Rd w B size (some (ad.add (k * size))) m ((xs.drop (k * size)).take (m * size)) := by
  obtain ⟨ad, e, hb, hc⟩ := h.2 (by omega)
  have hl : k * size + m * size ≤ n * size := by rw [← Nat.add_mul]; exact Nat.mul_le_mul_right _ hk
  refine ⟨ad, e, ?_, fun _ => ⟨_, rfl, by rw [addr_block]; exact hb, fun j u hu => ?_⟩⟩
  · simp only [List.length_take, List.length_drop, h.1]; omega
  · rw [addr_add_add]
    rw [List.getElem?_take] at hu
    split at hu
    · exact hc _ u (by rw [← hu, List.getElem?_drop])
    · cases hu
theorem Rd.at1 {k : Nat} (h : Rd w B 1 A n xs) (hk : k < n) : ∃ ad u, A = some ad ∧ ad.block < B ∧ xs[k]? = some u ∧ w.cell? (ad.add k) = some u := by
  obtain ⟨ad, e, hb, hc⟩ := h.2 (by omega)
  have hl : k < xs.length := by have := h.1; omega
  exact ⟨ad, xs[k], e, hb, List.getElem?_eq_getElem hl, hc k _ (List.getElem?_eq_getElem hl)⟩
end

/-- A list of ints, each within 64 bits. -/
def I64 (xs : List Int) : Prop := ∀ x ∈ xs, -9223372036854775808 ≤ x ∧ x ≤ 9223372036854775807
def cellsI (xs : List Int) : List Value := xs.map (Value.int .i64)
theorem cellsI_length (xs : List Int) : (cellsI xs).length = xs.length := by simp [cellsI]
theorem cellsI_get (xs : List Int) (k : Nat) : (cellsI xs)[k]? = xs[k]?.map (Value.int .i64) := by simp [cellsI]
theorem cellsI_one (xs : List Int) : ∀ u ∈ cellsI xs, u.oneCell' = true := by
  intro u hu
  obtain ⟨x, _, rfl⟩ := List.mem_map.1 hu
  rfl

/-- The slice '.slice A n c' reads as the ints xs; its block lies below B. -/
structure Ints (w : World) (B : Nat) (A : Option Addr) (n : Nat) (xs : List Int) : Prop where
  rd : Rd w B 1 A n (cellsI xs)
  i64 : I64 xs
  len : n ≤ 9223372036854775807

section
variable {w w' : World} {B B' n : Nat} {A : Option Addr} {xs : List Int}
theorem Ints.length (h : Ints w B A n xs) : xs.length = n := by have := h.rd.1; rw [cellsI_length] at this; omega
theorem Ints.get {k : Nat} (h : Ints w B A n xs) (hk : k < n) : ∃ ad x, A = some ad ∧ ad.block < B ∧ xs[k]? = some x ∧ x ∈ xs ∧ w.cell? (ad.add k) = some (.int .i64 x) ∧ -9223372036854775808 ≤ x ∧ x ≤ 9223372036854775807 := by
  obtain ⟨ad, u, e, hb, hu, hc⟩ := h.rd.at1 hk
  rw [cellsI_get] at hu
  cases hx : xs[k]? with
  | none => simp [hx] at hu
  | some x =>
    simp only [hx, Option.map_some, Option.some.injEq] at hu
    have hm := List.mem_of_getElem? hx
    exact ⟨ad, x, e, hb, rfl, hm, hu ▸ hc, (h.i64 x hm).1, (h.i64 x hm).2⟩
theorem Ints.below (h : Ints w B A n xs) {b : Nat} (hb : Below b w w') (hB : B ≤ b) : Ints w' B A n xs := ⟨h.rd.below hb hB, h.i64, h.len⟩
theorem Ints.more (h : Ints w B A n xs) (hB : B ≤ B') : Ints w B' A n xs := ⟨h.rd.more hB, h.i64, h.len⟩
theorem Ints.cut (h : Ints w B A n xs) {k m : Nat} (hm : 0 < m) (hk : k + m ≤ n) : ∃ ad, A = some ad ∧ Ints w B (some (ad.add k)) m ((xs.drop k).take m) := by
  obtain ⟨ad, e, hr⟩ := h.rd.cut hm hk
  refine ⟨ad, e, by simpa [cellsI, List.map_take, List.map_drop] using hr, fun x hx => h.i64 x (List.mem_of_mem_drop (List.mem_of_mem_take hx)), by have := h.len; omega⟩
end

theorem take_snoc' {α : Type} (l : List α) (k : Nat) (x : α) (h : l[k]? = some x) : l.take (k + 1) = l.take k ++ [x] := by
  rw [List.take_add_one, h]; rfl
theorem drop_cons' {α : Type} (l : List α) (k : Nat) (x : α) (h : l[k]? = some x) : l.drop k = x :: l.drop (k + 1) := by
  obtain ⟨hk, rfl⟩ := List.getElem?_eq_some_iff.1 h
  exact List.drop_eq_getElem_cons hk

theorem own_shape {w : World} {base : Nat} {e : TypeId} {size : Nat} {v : Value} {n : Nat} {xs : List Value} (h : w.ownsRow base e size v n xs) : ∃ A c, v = .slice A n c := by
  rcases h.2 with ⟨hv, h0⟩ | ⟨g, cap, cur, hv, _⟩
  · subst h0; exact ⟨none, 0, hv⟩
  · exact ⟨_, cap, hv⟩
theorem own_mono {w : World} {base base' : Nat} {e : TypeId} {size : Nat} {v : Value} {n : Nat} {xs : List Value} (h : w.ownsRow base e size v n xs) (hb : base' ≤ base) : w.ownsRow base' e size v n xs := by
  obtain ⟨h1, h2⟩ := h
  refine ⟨h1, ?_⟩
  rcases h2 with h2 | ⟨g, cap, cur, hv, hg, r⟩
  · exact .inl h2
  · exact .inr ⟨g, cap, cur, hv, Nat.le_trans hb hg, r⟩
/-- a row of the call's own is kept where another block is written -/
theorem own_kept {w w' : World} {base g : Nat} {e : TypeId} {size : Nat} {v : Value} {n : Nat} {xs : List Value} (h : w.ownsRow base e size v n xs) (hg : w.grownBy w' (some g)) (hb : g < base) : w'.ownsRow base e size v n xs :=
  h.kept hg (.inr fun e' => by have := h.lt g e'; omega)
theorem own_below {w w' : World} {base B : Nat} {e : TypeId} {size : Nat} {v : Value} {n : Nat} {xs : List Value} (h : w.ownsRow base e size v n xs) (hb : Below B w w') (hB : w.heap.size ≤ B) : w'.ownsRow base e size v n xs :=
  h.kept (row := none) ⟨hb.os, hb.tape, hb.output, hb.size, fun k hk _ => hb.block k (by omega)⟩ (by cases v.ownBlock <;> simp)

/-- copy(dst, src), elements of one cell, dst the head of a row of the call's own, src not shorter than what is copied: at the goal where the walk stops. -/
theorem upon_copy {P : Program} {o : Oper} {a : Act} {next : Act → World → Prop} {Q : Exit → Act → World → Prop} {W : World} {dT sT ty : TypeId} {dp sp : Option Addr} {dLen dCap sLen sCap : Nat}
    (elem : TypeId) (hu : P.underlying dT = some (.slice elem)) (hs : (P.info? elem).map (·.size) = some 1) (g : Nat) (cur : List Value) (t : TypeId) (cs : List Value) (B : Nat) (w0 : World)
    (hn : cs.length = Nat.min sLen dLen) (hd : dp = some ⟨g, 0, none⟩) (hg : W.heap[g]? = some (.cells cur.toArray t (0, 0))) (hsrc : Rd W B 1 sp cs.length cs) (hfit : cs.length ≤ cur.length) (h1 : ∀ v ∈ cs, v.oneCell' = true) (hb : Below B w0 W) (hBg : B ≤ g)
    (h : ∀ w', w'.heap[g]? = some (.cells (cs ++ cur.drop cs.length).toArray t (0, 0)) → Below B w0 w' → W.grownBy w' (some g) → next (a.put o.dst (goInt cs.length)) w') :
    o.upon P a next Q (((Builtin.copy_ #[dT, sT] ty #[.slice dp dLen dCap, .slice sp sLen sCap]).run P W).andThen fun v w' => .ok (.value v) w') := by
  subst hd
  by_cases h0 : cs.length = 0
  · obtain rfl : cs = [] := List.eq_nil_of_length_eq_zero h0
    rw [run_copy_none (P := P) W dT sT ty elem _ _ dLen dCap sLen sCap hu hs (by simpa using hn.symm)]
    exact h W (by simpa using hg) hb (World.grownBy.refl _ _)
  · obtain ⟨ad, rfl, _, hc⟩ := hsrc.2 (by omega)
    rw [run_copy_row (P := P) W dT sT ty elem g 0 dLen dCap ad sLen sCap cur.toArray t cs hu hs hg hn hc (by simpa using hfit) h1]
    refine h _ ?_ (below_setRow hb hBg _) ⟨rfl, rfl, rfl, by simp [World.setRow], fun k _ hk => setRow_other W g k _ (fun e => hk (by rw [e]))⟩
    have := setRow_heap W g cur.toArray ((cur.toArray.toList.take 0 ++ cs ++ cur.toArray.toList.drop (0 + cs.length)).toArray) t _ hg
    simpa using this

end Go.Proofs.Ytfkkppagbhllgaa

/-
  WORDS FOR MEMORY, MORE: a slice of structs of two and of four ints. Nothing of the program is named here.
-/
set_option linter.unusedVariables false
set_option linter.unusedSimpArgs false
namespace Go.Proofs.Ytfkkppagbhllgaa
open Go.RowKit

theorem flat_get {α : Type} (f : α → List Value) (s : Nat) (hf : ∀ a, (f a).length = s) (l : List α) (k j : Nat) (hj : j < s) :
    (l.flatMap f)[k * s + j]? = (l[k]?).bind fun a => (f a)[j]? := by
  induction l generalizing k with
  | nil => simp
  | cons a l ih =>
    rw [List.flatMap_cons]
    cases k with
    | zero => rw [List.getElem?_append_left (by rw [hf]; omega)]; simp
    | succ k =>
      have e : (k + 1) * s = k * s + s := Nat.succ_mul k s
      rw [List.getElem?_append_right (by rw [hf]; omega), hf, show (k + 1) * s + j - s = k * s + j by omega, ih]
      simp
theorem flat_length {α : Type} (f : α → List Value) (s : Nat) (hf : ∀ a, (f a).length = s) (l : List α) : (l.flatMap f).length = l.length * s := by
  induction l with
  | nil => simp
  | cons a l ih => rw [List.flatMap_cons, List.length_append, hf, ih, List.length_cons, Nat.succ_mul]; omega
theorem addr_off (a : Addr) {j : Nat} (hj : 0 < j) : a.add j = ⟨a.block, a.off + j, none⟩ := by unfold Addr.add; rw [if_neg (by omega)]

def i64b (x : Int) : Prop := -9223372036854775808 ≤ x ∧ x ≤ 9223372036854775807

def cells2 (p : Pt) : List Value := [.int .i64 p.x, .int .i64 p.y]
def cellsP (l : List Pt) : List Value := l.flatMap cells2
def cells4 (r : Rc) : List Value := [.int .i64 r.x, .int .i64 r.y, .int .i64 r.w, .int .i64 r.h]
def cellsR (l : List Rc) : List Value := l.flatMap cells4
theorem cellsP_length (l : List Pt) : (cellsP l).length = l.length * 2 := flat_length cells2 2 (fun _ => rfl) l
theorem cellsR_length (l : List Rc) : (cellsR l).length = l.length * 4 := flat_length cells4 4 (fun _ => rfl) l
theorem cellsP_one (l : List Pt) : ∀ u ∈ cellsP l, u.oneCell' = true := by
  intro u hu
  obtain ⟨p, _, h⟩ := List.mem_flatMap.1 hu
  simp only [cells2, List.mem_cons, List.not_mem_nil, or_false] at h
  rcases h with rfl | rfl <;> rfl
theorem cellsR_one (l : List Rc) : ∀ u ∈ cellsR l, u.oneCell' = true := by
  intro u hu
  obtain ⟨p, _, h⟩ := List.mem_flatMap.1 hu
  simp only [cells4, List.mem_cons, List.not_mem_nil, or_false] at h
  rcases h with rfl | rfl | rfl | rfl <;> rfl

def Pt.b (p : Pt) : Prop := i64b p.x ∧ i64b p.y
def Rc.b (r : Rc) : Prop := i64b r.x ∧ i64b r.y ∧ i64b r.w ∧ i64b r.h
def ptV (p : Pt) : Value := .agg #[.int .i64 p.x, .int .i64 p.y]
def rcV (r : Rc) : Value := .agg #[.int .i64 r.x, .int .i64 r.y, .int .i64 r.w, .int .i64 r.h]

structure Pts (w : World) (B : Nat) (A : Option Addr) (n : Nat) (l : List Pt) : Prop where
  rd : Rd w B 2 A n (cellsP l)
  b : ∀ p ∈ l, p.b
  len : n ≤ 9223372036854775807
structure Rects (w : World) (B : Nat) (A : Option Addr) (n : Nat) (l : List Rc) : Prop where
  rd : Rd w B 4 A n (cellsR l)
  b : ∀ r ∈ l, r.b
  len : n ≤ 9223372036854775807

section
variable {w w' : World} {B B' n : Nat} {A : Option Addr}
theorem Pts.length {l : List Pt} (h : Pts w B A n l) : l.length = n := by have := h.rd.1; rw [cellsP_length] at this; omega
theorem Rects.length {l : List Rc} (h : Rects w B A n l) : l.length = n := by have := h.rd.1; rw [cellsR_length] at this; omega
theorem Pts.get {l : List Pt} {k : Nat} (h : Pts w B A n l) (hk : k < n) : ∃ ad p, A = some ad ∧ ad.block < B ∧ l[k]? = some p ∧ p ∈ l ∧ p.b ∧
    w.cell? (ad.add (k * 2)) = some (.int .i64 p.x) ∧ w.cell? ⟨(ad.add (k * 2)).block, (ad.add (k * 2)).off + 1, none⟩ = some (.int .i64 p.y) := by
  obtain ⟨ad, e, hb, hc⟩ := h.rd.2 (by omega)
  have hl := h.length
  have hx : l[k]? = some (l[k]'(by omega)) := List.getElem?_eq_getElem (by omega)
  have g : ∀ j, j < 2 → (cellsP l)[k * 2 + j]? = (cells2 (l[k]'(by omega)))[j]? := fun j hj => by
    rw [cellsP, flat_get cells2 2 (fun _ => rfl) l k j hj, hx]; rfl
  refine ⟨ad, _, e, hb, hx, List.mem_of_getElem? hx, h.b _ (List.mem_of_getElem? hx), hc _ _ (g 0 (by omega)), ?_⟩
  rw [← addr_off _ (by omega), addr_add_add]
  exact hc _ _ (g 1 (by omega))
theorem Rects.get {l : List Rc} {k : Nat} (h : Rects w B A n l) (hk : k < n) : ∃ ad r, A = some ad ∧ ad.block < B ∧ l[k]? = some r ∧ r ∈ l ∧ r.b ∧
    w.cell? (ad.add (k * 4)) = some (.int .i64 r.x) ∧ w.cell? ⟨(ad.add (k * 4)).block, (ad.add (k * 4)).off + 1, none⟩ = some (.int .i64 r.y) ∧
    w.cell? ⟨(ad.add (k * 4)).block, (ad.add (k * 4)).off + 2, none⟩ = some (.int .i64 r.w) ∧ w.cell? ⟨(ad.add (k * 4)).block, (ad.add (k * 4)).off + 3, none⟩ = some (.int .i64 r.h) := by
  obtain ⟨ad, e, hb, hc⟩ := h.rd.2 (by omega)
  have hl := h.length
  have hx : l[k]? = some (l[k]'(by omega)) := List.getElem?_eq_getElem (by omega)
  have g : ∀ j, j < 4 → (cellsR l)[k * 4 + j]? = (cells4 (l[k]'(by omega)))[j]? := fun j hj => by
    rw [cellsR, flat_get cells4 4 (fun _ => rfl) l k j hj, hx]; rfl
  refine ⟨ad, _, e, hb, hx, List.mem_of_getElem? hx, h.b _ (List.mem_of_getElem? hx), hc _ _ (g 0 (by omega)), ?_, ?_, ?_⟩
  · rw [← addr_off _ (by omega), addr_add_add]; exact hc _ _ (g 1 (by omega))
  · rw [← addr_off _ (by omega), addr_add_add]; exact hc _ _ (g 2 (by omega))
  · rw [← addr_off _ (by omega), addr_add_add]; exact hc _ _ (g 3 (by omega))
theorem Pts.below {l : List Pt} (h : Pts w B A n l) {b : Nat} (hb : Below b w w') (hB : B ≤ b) : Pts w' B A n l := ⟨h.rd.below hb hB, h.b, h.len⟩
theorem Rects.below {l : List Rc} (h : Rects w B A n l) {b : Nat} (hb : Below b w w') (hB : B ≤ b) : Rects w' B A n l := ⟨h.rd.below hb hB, h.b, h.len⟩
theorem Pts.more {l : List Pt} (h : Pts w B A n l) (hB : B ≤ B') : Pts w B' A n l := ⟨h.rd.more hB, h.b, h.len⟩
theorem Rects.more {l : List Rc} (h : Rects w B A n l) (hB : B ≤ B') : Rects w B' A n l := ⟨h.rd.more hB, h.b, h.len⟩
/-- The first m. -/
theorem Rects.take {l : List Rc} {m : Nat} (h : Rects w B A n l) (hm : m ≤ n) : Rects w B A m (l.take m) := by
  have hl := h.length
  refine ⟨⟨by rw [cellsR_length, List.length_take]; omega, fun h0 => ?_⟩, fun r hr => h.b r (List.mem_of_mem_take hr), by have := h.len; omega⟩
  obtain ⟨ad, e, hb, hc⟩ := h.rd.2 (by omega)
  refine ⟨ad, e, hb, fun j u hu => hc j u ?_⟩
  rw [← hu]
  have hj : j < m * 4 := by
    have := (List.getElem?_eq_some_iff.1 hu).1
    rw [cellsR_length, List.length_take] at this; omega
  have e1 : j = j / 4 * 4 + j % 4 := by omega
  rw [e1, cellsR, cellsR, flat_get cells4 4 (fun _ => rfl) l _ _ (by omega), flat_get cells4 4 (fun _ => rfl) _ _ _ (by omega), List.getElem?_take, if_pos (by omega)]
theorem Pts.take {l : List Pt} {m : Nat} (h : Pts w B A n l) (hm : m ≤ n) : Pts w B A m (l.take m) := by
  have hl := h.length
  refine ⟨⟨by rw [cellsP_length, List.length_take]; omega, fun h0 => ?_⟩, fun r hr => h.b r (List.mem_of_mem_take hr), by have := h.len; omega⟩
  obtain ⟨ad, e, hb, hc⟩ := h.rd.2 (by omega)
  refine ⟨ad, e, hb, fun j u hu => hc j u ?_⟩
  rw [← hu]
  have hj : j < m * 2 := by
    have := (List.getElem?_eq_some_iff.1 hu).1
    rw [cellsP_length, List.length_take] at this; omega
  have e1 : j = j / 2 * 2 + j % 2 := by omega
  rw [e1, cellsP, cellsP, flat_get cells2 2 (fun _ => rfl) l _ _ (by omega), flat_get cells2 2 (fun _ => rfl) _ _ _ (by omega), List.getElem?_take, if_pos (by omega)]
end

theorem Ints.laid (xs : List Int) (cs : Array Value) (hcs : cs = (cellsI xs).toArray) (t : TypeId) (h : I64 xs) (hl : xs.length ≤ 1000) (w : World) (B : Nat) (hB : w.heap.size < B) :
    Ints (w.alloc (.cells cs t)) B (some ⟨w.heap.size, 0, none⟩) xs.length xs := by
  subst hcs
  refine ⟨⟨by simp [cellsI], fun _ => ⟨_, rfl, hB, fun j u hu => ?_⟩⟩, h, by omega⟩
  rw [addr_lit, cell_of_row _ _ _ _ _ _ (heap_alloc_new w _)]
  simpa using hu
theorem Pts.laid (ps : List Pt) (cs : Array Value) (hcs : cs = (cellsP ps).toArray) (t : TypeId) (h : ∀ p ∈ ps, p.b) (hl : ps.length ≤ 1000) (w : World) (B : Nat) (hB : w.heap.size < B) :
    Pts (w.alloc (.cells cs t)) B (some ⟨w.heap.size, 0, none⟩) ps.length ps := by
  subst hcs
  refine ⟨⟨cellsP_length ps, fun _ => ⟨_, rfl, hB, fun j u hu => ?_⟩⟩, h, by omega⟩
  rw [addr_lit, cell_of_row _ _ _ _ _ _ (heap_alloc_new w _)]
  simpa using hu
/-- Rectangles in memory of the call's own. -/
theorem Rects.of_own {w : World} {base : Nat} {t : TypeId} {A : Option Addr} {n c : Nat} {l : List Rc} (h : w.ownsRow base t 4 (.slice A n c) n (cellsR l)) (hb : ∀ r ∈ l, r.b) (hn : n ≤ 9223372036854775807) : Rects w w.heap.size A n l := ⟨Rd.of_own h, hb, hn⟩
theorem Ints.of_own {w : World} {base : Nat} {t : TypeId} {A : Option Addr} {n c : Nat} {l : List Int} (h : w.ownsRow base t 1 (.slice A n c) n (cellsI l)) (hb : I64 l) (hn : n ≤ 9223372036854775807) : Ints w w.heap.size A n l := ⟨Rd.of_own h, hb, hn⟩
/-- The cells of an owned row, at the head of its block. -/
theorem own_cells {w : World} {base : Nat} {t : TypeId} {size : Nat} {A : Option Addr} {n c : Nat} {xs : List Value} (h : w.ownsRow base t size (.slice A n c) n xs) (hn : 0 < n) :
    ∃ g, A = some ⟨g, 0, none⟩ ∧ base ≤ g ∧ g < w.heap.size ∧ n ≤ c ∧ ∀ j u, xs[j]? = some u → w.cell? ⟨g, j, none⟩ = some u := by
  rcases h.2 with ⟨hv, h0⟩ | ⟨g, cap, cur, hv, hg, hh, hc, _⟩
  · omega
  · injection hv with h1 _ h3
    subst h1; subst h3
    have hlt : g < w.heap.size := by
      rcases Nat.lt_or_ge g w.heap.size with hlt | hge
      · exact hlt
      · rw [Array.getElem?_eq_none hge] at hh; cases hh
    refine ⟨g, rfl, hg, hlt, hc, fun j u hu => ?_⟩
    rw [← addr_lit]
    exact h.cells (g := g) rfl j u hu

/-- A list and an error's number are handed back; the list lies in memory of the call's own. -/
def ListRes (w : World) (t : TypeId) (size : Nat) (n : Nat) (cs : List Value) (err : Int) (e : Ending) (w' : World) : Prop :=
  ∃ A c, e = .returned (.tuple #[.slice A n c, .int .i64 err]) ∧ w'.ownsRow w.heap.size t size (.slice A n c) n cs ∧ Below w.heap.size w w'
theorem ListRes.none_ {w w' : World} {t : TypeId} {size : Nat} {err : Int} {v : Value} (hv : v = .tuple #[.slice none 0 0, .int .i64 err]) (hb : Below w.heap.size w w') : ListRes w t size 0 [] err (.returned v) w' := by
  subst hv
  exact ⟨none, 0, rfl, World.ownsRow_nil _ _ _ _, hb⟩
/-- A list alone is handed back. -/
def LoneRes (w : World) (t : TypeId) (size : Nat) (n : Nat) (cs : List Value) (e : Ending) (w' : World) : Prop :=
  ∃ A c, e = .returned (.slice A n c) ∧ w'.ownsRow w.heap.size t size (.slice A n c) n cs ∧ Below w.heap.size w w'

end Go.Proofs.Ytfkkppagbhllgaa

/-
  A VARIABLE OF SOME CELLS IN MEMORY. Nothing of the program is named here.
-/
set_option linter.unusedVariables false
set_option linter.unusedSimpArgs false
namespace Go.Proofs.Ytfkkppagbhllgaa
open Go.RowKit

/-- block g holds the cells cs, and may be written -/
structure SlotN (w : World) (g : Nat) (cs : List Value) : Prop where
  c : ∀ j u, cs[j]? = some u → w.cell? ⟨g, j, none⟩ = some u
  f : ∀ j, w.frozen? ⟨g, j, none⟩ = false
theorem SlotN.new (w : World) (cs : List Value) (cs' : Array Value) (t : TypeId) (h : cs' = cs.toArray) : SlotN (w.alloc (.cells cs' t)) w.heap.size cs := by
  subst h
  have h := heap_alloc_new w (.cells cs.toArray t)
  refine ⟨fun j u hj => ?_, fun j => frozen_of_row _ _ _ _ _ h⟩
  rw [cell_of_row _ _ _ _ _ _ h]
  simpa using hj
theorem SlotN.below {w w' : World} {g B : Nat} {cs : List Value} (h : SlotN w g cs) (hb : Below B w w') (hg : g < B) : SlotN w' g cs :=
  ⟨fun j u hj => (hb.cell (p := ⟨g, j, none⟩) hg).trans (h.c j u hj), fun j => (hb.frozen (p := ⟨g, j, none⟩) hg).trans (h.f j)⟩
theorem SlotN.drewN {w : World} {g : Nat} {cs : List Value} (h : SlotN w g cs) (q : Nat) : SlotN (w.drewN q) g cs := ⟨h.c, h.f⟩
theorem SlotN.set2 {w : World} {g : Nat} {a b : Value} (h : SlotN w g [a, b]) (a' b' : Value) : SlotN ((w.setCell ⟨g, 0, none⟩ a').setCell ⟨g, 1, none⟩ b') g [a', b'] := by
  have h0 := h.c 0 _ rfl
  have h1 := h.c 1 _ rfl
  refine ⟨fun j u hj => ?_, fun j => by rw [World.frozen?_setCell, World.frozen?_setCell]; exact h.f j⟩
  rcases (show j = 0 ∨ j = 1 ∨ 2 ≤ j by omega) with rfl | rfl | h2
  · simp at hj; subst hj
    rw [World.cell?_setCell_other _ _ _ _ (by simp), World.cell?_setCell_same' _ _ _ (by rw [h0]; rfl)]
  · simp at hj; subst hj
    rw [World.cell?_setCell_same' _ _ _ (by rw [World.cell?_setCell_other _ _ _ _ (by simp), h1]; rfl)]
  · rw [List.getElem?_eq_none (by simp; omega)] at hj; cases hj
theorem SlotN.set1 {w : World} {g : Nat} {a : Value} {l : List Value} (h : SlotN w g (a :: l)) (a' : Value) : SlotN (w.setCell ⟨g, 0, none⟩ a') g (a' :: l) := by
  have h0 := h.c 0 _ rfl
  refine ⟨fun j u hj => ?_, fun j => by rw [World.frozen?_setCell]; exact h.f j⟩
  cases j with
  | zero =>
    simp at hj; subst hj
    rw [World.cell?_setCell_same' _ _ _ (by rw [h0]; rfl)]
  | succ j =>
    rw [World.cell?_setCell_other _ _ _ _ (by simp)]
    exact h.c (j + 1) u hj
/-- A Below that starts behind a new block. -/
theorem below_alloc_lt {B : Nat} {w w' : World} {o : Obj} (h : Below (w.heap.size + 1) (w.alloc o) w') (hB : B ≤ w.heap.size) : Below B w w' :=
  ((Below.refl B w).alloc hB o).trans (h.mono (by omega))
end Go.Proofs.Ytfkkppagbhllgaa

/-
  TEXTS: sums and pieces of texts. Nothing of the program is named here.
-/
set_option linter.unusedVariables false
set_option linter.unusedSimpArgs false
set_option maxRecDepth 4000
namespace Go.Proofs.Ytfkkppagbhllgaa
open Go.RowKit

/-- a sum of strings -/
theorem run_cat {P : Program} (l m : List UInt8) (h : l.length + m.length ≤ 9223372036854775807) (w : World) :
    (Op.stringOp .add ⟨l.toArray⟩ ⟨m.toArray⟩).run P w = .ok (.string ⟨(l ++ m).toArray⟩) w := by
  rw [run_string_add_sum w _ _ (by simpa [ByteArray.size] using h), ByteArray.mk_append_mk]
def strV (l : List UInt8) : Value := .string ⟨l.toArray⟩
/-- a text is handed back -/
def SR (w : World) (l : List UInt8) (e : Ending) (w' : World) : Prop := e = .returned (.string ⟨l.toArray⟩) ∧ Below w.heap.size w w'
/-- a piece of a text -/
theorem run_sl {P : Program} (t : TypeId) (l : List UInt8) (a b : Int) (i j : Nat) (ha : a = (i : Int)) (hb : b = (j : Int)) (h1 : i ≤ j) (h2 : j ≤ l.length) (hu : P.underlying t = some .string) (W : World) :
    (Instr.slice t (.string ⟨l.toArray⟩) (some (.int .i64 a)) (some (.int .i64 b)) none).run P W = .ok (.string ⟨((l.drop i).take (j - i)).toArray⟩) W := by
  subst ha; subst hb
  rw [run_slice_string_if W t _ .i64 .i64 _ _ hu, if_pos (by simp [ByteArray.size]; omega), if_pos (by omega)]
  rw [ByteArray.extract_mk]
  have : List.take ((j : Int).toNat - (i : Int).toNat) (List.drop (i : Int).toNat l) = (l.drop i).take (j - i) := by simp
  rw [this]
theorem run_sl_to {P : Program} (t : TypeId) (l : List UInt8) (b : Int) (j : Nat) (hb : b = (j : Int)) (h2 : j ≤ l.length) (hu : P.underlying t = some .string) (W : World) :
    (Instr.slice t (.string ⟨l.toArray⟩) none (some (.int .i64 b)) none).run P W = .ok (.string ⟨(l.take j).toArray⟩) W := by
  subst hb
  rw [run_slice_string_to_if W t _ .i64 _ hu, if_pos (by simp [ByteArray.size]; omega)]
  rw [ByteArray.extract_mk]
  have : List.take ((j : Int).toNat - 0) (List.drop 0 l) = l.take j := by simp
  rw [this]
theorem run_sl_from {P : Program} (t : TypeId) (l : List UInt8) (b : Int) (j : Nat) (hb : b = (j : Int)) (h2 : j ≤ l.length) (hu : P.underlying t = some .string) (W : World) :
    (Instr.slice t (.string ⟨l.toArray⟩) (some (.int .i64 b)) none none).run P W = .ok (.string ⟨(l.drop j).toArray⟩) W := by
  subst hb
  rw [run_slice_string_from_if W t _ .i64 _ hu, if_pos (by simp [ByteArray.size]; omega)]
  rw [ByteArray.extract_mk]
  have : List.take ((ByteArray.mk l.toArray).size - (j : Int).toNat) (List.drop (j : Int).toNat l) = l.drop j := by
    simp [ByteArray.size]
    exact List.take_of_length_le (by simp)
  rw [this]
end Go.Proofs.Ytfkkppagbhllgaa

/-
  A DRAWN REGION WHOSE OPERATIONS ARE PARTLY GUARDED OFF: one that is not carried out may be taken first. Nothing of the program is named here.
-/
set_option linter.unusedVariables false
set_option linter.unusedSimpArgs false
namespace Go.Proofs.Ytfkkppagbhllgaa
open Go.RowKit

theorem wpAnyH_skip {P : Program} {md : Region.Mode} {ops : Array Oper} {Q : Exit → Act → World → Prop} {S : World → Prop} (i : Nat) {d : Option Tmp} {fuel : Nat} {listed : Array Bool} {a : Act} {w : World}
    (h0 : ((ops[i]?).map fun o => (o.dst, Region.wanted o (yielded ops a.tmps))) = some (d, false))
    (hs : Region.noSelect ops = true) (hf : Region.free md ops listed i = true) (hr : (Region.ready md ops listed).contains i = true)
    (hQ : ∀ c a w, Q (.panic c) (a.put d undef) w → Q (.panic c) a w) (hS : S w)
    (h : wpAnyH P md ops Q S fuel (listed.setIfInBounds i true) (a.put d undef) w) : wpAnyH P md ops Q S (fuel + 1) listed a w := by
  cases hi : ops[i]? with
  | none => rw [hi] at h0; cases h0
  | some o =>
    rw [hi] at h0
    simp only [Option.map_some, Option.some.injEq, Prod.mk.injEq] at h0
    obtain ⟨rfl, h1⟩ := h0
    exact wpAnyH_take hi hs hf hr hQ (.inr ⟨h1, rfl⟩) hS h
/-- one that is carried out, its slot told by its number -/
theorem wpAnyH_takeD {P : Program} {md : Region.Mode} {ops : Array Oper} {Q : Exit → Act → World → Prop} {S : World → Prop} (i : Nat) {oi : Oper} {d : Option Tmp} {v : Value} {fuel : Nat} {listed : Array Bool} {a : Act} {w : World}
    (hi : ops[i]? = some oi) (hd : oi.dst = d) (hw : Region.wanted oi (yielded ops a.tmps) = true)
    (hs : Region.noSelect ops = true) (hf : Region.free md ops listed i = true) (hr : (Region.ready md ops listed).contains i = true)
    (hQ : ∀ c a w, Q (.panic c) (a.put d v) w → Q (.panic c) a w) (hy : ∀ w, S w → (execOp a.eval oi).run P w = .ok (.value v) w) (hS : S w)
    (h : wpAnyH P md ops Q S fuel (listed.setIfInBounds i true) (a.put d v) w) : wpAnyH P md ops Q S (fuel + 1) listed a w := by
  subst hd
  exact wpAnyH_take hi hs hf hr hQ (.inl ⟨hw, hy⟩) hS h
end Go.Proofs.Ytfkkppagbhllgaa

/-
  THE STEPS OF tga's rows of colours: many, at, same, colours.
-/
set_option linter.unusedVariables false
set_option linter.unusedSimpArgs false
set_option maxRecDepth 8000
namespace Go.Proofs.Ytfkkppagbhllgaa
open Go.RowKit

/-- a row of colours -/
def rowV (z : Nat) (l : List UInt8) : Value := .agg #[.string ⟨l.toArray⟩, .int .i64 (z : Int)]
theorem colours_any (z : Int) (w : World) : Calls Try.prog 40 #[.int .i64 z] w fun e w' => e = .returned (.bool (decide (z = 3 ∨ z = 4))) ∧ w' = w := by
  by_cases h3 : z = 3
  · subst h3
    go_enter Try.func40, Try.ntmps40
    go_wp2_with fail
    go_ret
    exact ⟨rfl, rfl⟩
  · have t1 : (z == 3) = false := by simpa using h3
    by_cases h4 : z = 4
    · subst h4
      go_enter Try.func40, Try.ntmps40
      go_wp2_with fail
      go_ret
      exact ⟨rfl, rfl⟩
    · have t2 : (z == 4) = false := by simpa using h4
      have e : decide (z = 3 ∨ z = 4) = false := decide_eq_false (by omega)
      rw [e]
      clear h3 h4 e
      go_enter Try.func40, Try.ntmps40
      go_wp2_with fail
      go_ret
      exact ⟨rfl, rfl⟩
theorem many_any (z : Nat) (l : List UInt8) (w : World) (hz : z = 3 ∨ z = 4) (hl : l.length ≤ 1000000) :
    Calls Try.prog 66 #[rowV z l] w fun e w' => e = .returned (.int .i64 (manyT z l : Nat)) ∧ Below w.heap.size w w' := by
  have td : (l.length : Int).tdiv (z : Int) = (manyT z l : Nat) := by
    rw [Int.tdiv_eq_ediv_of_nonneg (by omega)]; rfl
  have hm : manyT z l ≤ 1000000 := Nat.le_trans (Nat.div_le_self _ _) hl
  have wd : IntKind.i64.wrap (((manyT z l : Nat) : Int)) = ((manyT z l : Nat) : Int) := by rw [IntKind.wrap_i64]; omega
  have z0 : ((z : Int) == 0) = false := by simp; omega
  have z00 : ¬ ((z : Int) = 0) := by omega
  have z01 : ¬ (z = 0) := by omega
  have hb : Below w.heap.size w (w.alloc (.cells #[.string ⟨l.toArray⟩, .int .i64 (z : Int)] 48)) := (Below.refl _ _).alloc (Nat.le_refl _) _
  have s := SlotN.new w [.string ⟨l.toArray⟩, .int .i64 (z : Int)] #[.string ⟨l.toArray⟩, .int .i64 (z : Int)] 48 rfl
  have s0 := s.c 0 _ rfl
  have s1 := s.c 1 _ rfl
  generalize manyT z l = m at *
  unfold rowV
  clear s hz
  go_enter Try.func66, Try.ntmps66
  go_wp2_with fail
  go_ret
  exact ⟨rfl, hb⟩
theorem at_any (z : Nat) (l : List UInt8) (i : Nat) (w : World) (hz : z = 3 ∨ z = 4) (hl : l.length ≤ 1000000) (hi : i < manyT z l) :
    Calls Try.prog 53 #[rowV z l, .int .i64 (i : Int)] w fun e w' => e = .returned (.string ⟨(colT z l i).toArray⟩) ∧ Below w.heap.size w w' := by
  have hiz : (i + 1) * z ≤ l.length := by
    have h1 : (i + 1) * z ≤ manyT z l * z := Nat.mul_le_mul_right _ hi
    have h2 : manyT z l * z ≤ l.length := Nat.div_mul_le_self _ _
    omega
  have HS : ∀ W, (Instr.slice 9 (.string ⟨l.toArray⟩) (some (.int .i64 ((i : Int) * (z : Int)))) (some (.int .i64 (((i : Int) + 1) * (z : Int)))) none).run Try.prog W = .ok (.string ⟨(colT z l i).toArray⟩) W := fun W => by
    rw [run_sl 9 l _ _ (i * z) ((i + 1) * z) (by simp) (by simp) (Nat.mul_le_mul_right _ (by omega)) hiz Try.underlying9 W]
    unfold colT
    rw [show (i + 1) * z - i * z = z by rw [Nat.succ_mul]; omega]
  have hiz' := hiz
  rw [Nat.succ_mul] at hiz'
  have m0 : (0 : Int) ≤ (i : Int) * (z : Int) := Int.mul_nonneg (by omega) (by omega)
  have m1 : (i : Int) * (z : Int) ≤ 1000000 := by
    have : ((i * z : Nat) : Int) ≤ 1000000 := by omega
    simpa using this
  have m2 : (0 : Int) ≤ ((i : Int) + 1) * (z : Int) := Int.mul_nonneg (by omega) (by omega)
  have m3 : ((i : Int) + 1) * (z : Int) ≤ 1000000 := by
    have : (((i + 1) * z : Nat) : Int) ≤ 1000000 := by omega
    simpa using this
  have i1 : (i : Int) ≤ 1000000 := by
    have := Nat.div_le_self l.length z
    unfold manyT at hi
    omega
  have hb : Below w.heap.size w (w.alloc (.cells #[.string ⟨l.toArray⟩, .int .i64 (z : Int)] 48)) := (Below.refl _ _).alloc (Nat.le_refl _) _
  have s := SlotN.new w [.string ⟨l.toArray⟩, .int .i64 (z : Int)] #[.string ⟨l.toArray⟩, .int .i64 (z : Int)] 48 rfl
  have s0 := s.c 0 _ rfl
  have s1 := s.c 1 _ rfl
  unfold rowV
  clear s hiz hiz' hi hz
  go_enter Try.func53, Try.ntmps53
  go_wp2_with fail
  go_ret
  exact ⟨rfl, hb⟩
end Go.Proofs.Ytfkkppagbhllgaa

/-
  THE STEPS OF tga's (row).same.
-/
set_option linter.unusedVariables false
set_option linter.unusedSimpArgs false
set_option maxRecDepth 8000
namespace Go.Proofs.Ytfkkppagbhllgaa
open Go.RowKit

set_option maxHeartbeats 3200000 in
theorem same_any (z : Nat) (l : List UInt8) (i : Nat) (w : World) (hz : z = 3 ∨ z = 4) (hl : l.length ≤ 1000000) (hi : i < manyT z l) :
    Calls Try.prog 67 #[rowV z l, .int .i64 (i : Int)] w fun e w' => e = .returned (.bool (sameT z l i)) ∧ Below w.heap.size w w' := by
  have K1 := Lib.hid (fun W => many_any z l W hz hl)
  have K2 := Lib.hid (fun W => at_any z l i W hz hl hi)
  have hm : manyT z l ≤ 1000000 := Nat.le_trans (Nat.div_le_self _ _) hl
  have hb : Below w.heap.size w (w.alloc (.cells #[.string ⟨l.toArray⟩, .int .i64 (z : Int)] 48)) := (Below.refl _ _).alloc (Nat.le_refl _) _
  have s := SlotN.new w [.string ⟨l.toArray⟩, .int .i64 (z : Int)] #[.string ⟨l.toArray⟩, .int .i64 (z : Int)] 48 rfl
  have s0 := s.c 0 _ rfl
  have s1 := s.c 1 _ rfl
  have hz0 : (w.alloc (.cells #[.string ⟨l.toArray⟩, .int .i64 (z : Int)] 48)).heap.size = w.heap.size + 1 := by simp
  clear s
  by_cases h : i + 1 < manyT z l
  · have K3 := Lib.hid (fun W => at_any z l (i + 1) W hz hl h)
    have e : sameT z l i = (colT z l i == colT z l (i + 1)) := by unfold sameT; rw [decide_eq_true h]; rfl
    rw [e]
    have t1 : decide ((i : Int) + 1 < ((manyT z l : Nat) : Int)) = true := decide_eq_true (by omega)
    have w1 : IntKind.i64.wrap ((i : Int) + 1) = (i : Int) + 1 := by rw [IntKind.wrap_i64]; omega
    generalize colT z l i = c1 at *
    generalize colT z l (i + 1) = c2 at *
    generalize manyT z l = m at *
    obtain ⟨b, hbb⟩ : ∃ b, b = (c1 == c2) := ⟨_, rfl⟩
    rw [← hbb]
    have HBB := Lib.hid hbb
    clear e hbb
    have e9 : ((i + 1 : Nat) : Int) = (i : Int) + 1 := by omega
    rw [e9] at K3
    clear e9
    unfold rowV at *
    go_enter Try.func67, Try.ntmps67
    go_wp2_with fail
    generalize w.alloc (.cells #[.string ⟨l.toArray⟩, .int .i64 (z : Int)] 48) = W0 at *
    go_region_held3 (fun w' => w'.cell? ⟨w.heap.size, 0, none⟩ = some (.string ⟨l.toArray⟩) ∧ w'.cell? ⟨w.heap.size, 1, none⟩ = some (.int .i64 (z : Int)))
      (refine ⟨?_, ?_⟩ <;> (first | with_reducible assumption | (rw [hby.cell (by (try dsimp only); omega)]; with_reducible assumption) | (go_keep; done)))
      (first
        | (go_at_call 66; refine (K1.out _).mono ?_; clear K1; rintro e wx ⟨rfl, hbx⟩; have hby : Below W0.heap.size W0 wx := by first | exact hby.trans (hbx.mono hby.size) | exact (Below.refl _ W0).drew.trans (hbx.mono (by simp)))
        | (go_at_call_of 53 (Value.int IntKind.i64 (i : Int)); refine (K2.out _).mono ?_; clear K2; rintro e wx ⟨rfl, hbx⟩; have hby : Below W0.heap.size W0 wx := by first | exact hby.trans (hbx.mono hby.size) | exact (Below.refl _ W0).drew.trans (hbx.mono (by simp)))
        | (go_at_call 53; refine (K3.out _).mono ?_; clear K3; rintro e wx ⟨rfl, hbx⟩; have hby : Below W0.heap.size W0 wx := by first | exact hby.trans (hbx.mono hby.size) | exact (Below.refl _ W0).drew.trans (hbx.mono (by simp))))
    all_goals
      go_wp2_with fail
      go_ret
      exact ⟨ret_bool HBB.out.symm, hb.trans (hby.mono hb.size)⟩
  · have e : sameT z l i = false := by unfold sameT; rw [decide_eq_false h]; rfl
    rw [e]
    have t1 : decide ((i : Int) + 1 < ((manyT z l : Nat) : Int)) = false := decide_eq_false (by omega)
    generalize manyT z l = m at *
    have w1 : IntKind.i64.wrap ((i : Int) + 1) = (i : Int) + 1 := by rw [IntKind.wrap_i64]; omega
    clear e K2
    unfold rowV at *
    go_enter Try.func67, Try.ntmps67
    go_wp2_with fail
    generalize w.alloc (.cells #[.string ⟨l.toArray⟩, .int .i64 (z : Int)] 48) = W0 at *
    refine wp_region_held_drew (S := (fun w' => w'.cell? ⟨w.heap.size, 0, none⟩ = some (.string ⟨l.toArray⟩) ∧ w'.cell? ⟨w.heap.size, 1, none⟩ = some (.int .i64 (z : Int)))) (by kernel_rfl) ?_ (fun hHeld => ?_)
    · refine ⟨?_, ?_⟩ <;> (first | with_reducible assumption | (rw [hby.cell (by (try dsimp only); omega)]; with_reducible assumption) | (go_keep; done))
    refine wpAnyH_takeD 0 (d := (some 5)) (v := ?_) rfl rfl (by kernel_rfl) (by kernel_rfl) (by kernel_rfl) (by kernel_rfl) (fun _ _ _ h => h) ?_ (by assumption) ?_
    rotate_left
    · intro ww hSw; (try dsimp only at hSw); first | (go_simp; done) | (go_simp; with_reducible rfl)
    simp only [Act.put, List.setIfInBounds_toArray, List.set_cons_zero, List.set_cons_succ]
    refine wpAnyH_takeD 1 (d := (some 6)) (v := ?_) rfl rfl (by kernel_rfl) (by kernel_rfl) (by kernel_rfl) (by kernel_rfl) (fun _ _ _ h => h) ?_ (by assumption) ?_
    rotate_left
    · intro ww hSw; (try dsimp only at hSw); first | (go_simp; done) | (go_simp; with_reducible rfl)
    simp only [Act.put, List.setIfInBounds_toArray, List.set_cons_zero, List.set_cons_succ]
    refine wpAnyH_takeD 2 (d := (some 7)) (v := ?_) rfl rfl (by kernel_rfl) (by kernel_rfl) (by kernel_rfl) (by kernel_rfl) (fun _ _ _ h => h) ?_ (by assumption) ?_
    rotate_left
    · intro ww hSw; (try dsimp only at hSw); first | (go_simp; done) | (go_simp; with_reducible rfl)
    simp only [Act.put, List.setIfInBounds_toArray, List.set_cons_zero, List.set_cons_succ]
    refine wpAnyH_ready (rs := [3]) (by kernel_rfl) (by simp) ?_
    refine AllReadyH.cons (o := _) rfl (fun K hK => ?_) AllReadyH.nil
    go_simp
    go_at_call 66
    refine (K1.out _).mono ?_
    clear K1
    rintro e wx ⟨rfl, hbx⟩
    have hby : Below W0.heap.size W0 wx := (Below.refl _ W0).drew.trans (hbx.mono (by simp))
    try go_simp
    refine hK.out _ _ ?_ (fun hHeld => ?_)
    · refine ⟨?_, ?_⟩ <;> (first | with_reducible assumption | (rw [hby.cell (by (try dsimp only); omega)]; with_reducible assumption) | (go_keep; done))
    clear hK K
    refine wpAnyH_takeD 4 (d := (some 9)) (v := ?_) rfl rfl (by kernel_rfl) (by kernel_rfl) (by kernel_rfl) (by kernel_rfl) (fun _ _ _ h => h) ?_ (by assumption) ?_
    rotate_left
    · intro ww hSw; (try dsimp only at hSw); first | (go_simp; done) | (go_simp; with_reducible rfl)
    simp only [Act.put, List.setIfInBounds_toArray, List.set_cons_zero, List.set_cons_succ]
    refine wpAnyH_takeD 5 (d := (some 10)) (v := ?_) rfl rfl (by kernel_rfl) (by kernel_rfl) (by kernel_rfl) (by kernel_rfl) (fun _ _ _ h => h) ?_ (by assumption) ?_
    rotate_left
    · intro ww hSw; (try dsimp only at hSw); first | (go_simp; done) | (go_simp; with_reducible rfl)
    simp only [Act.put, List.setIfInBounds_toArray, List.set_cons_zero, List.set_cons_succ]
    refine wpAnyH_skip 6 (d := (some 11)) (by kernel_rfl) (by kernel_rfl) (by kernel_rfl) (by kernel_rfl) (fun _ _ _ h => h) (by assumption) ?_
    simp only [Act.put, List.setIfInBounds_toArray, List.set_cons_zero, List.set_cons_succ]
    refine wpAnyH_skip 7 (d := (some 12)) (by kernel_rfl) (by kernel_rfl) (by kernel_rfl) (by kernel_rfl) (fun _ _ _ h => h) (by assumption) ?_
    simp only [Act.put, List.setIfInBounds_toArray, List.set_cons_zero, List.set_cons_succ]
    refine wpAnyH_skip 8 (d := (some 13)) (by kernel_rfl) (by kernel_rfl) (by kernel_rfl) (by kernel_rfl) (fun _ _ _ h => h) (by assumption) ?_
    simp only [Act.put, List.setIfInBounds_toArray, List.set_cons_zero, List.set_cons_succ]
    refine wpAnyH_skip 9 (d := (some 14)) (by kernel_rfl) (by kernel_rfl) (by kernel_rfl) (by kernel_rfl) (fun _ _ _ h => h) (by assumption) ?_
    simp only [Act.put, List.setIfInBounds_toArray, List.set_cons_zero, List.set_cons_succ]
    refine wpAnyH_skip 10 (d := (some 15)) (by kernel_rfl) (by kernel_rfl) (by kernel_rfl) (by kernel_rfl) (fun _ _ _ h => h) (by assumption) ?_
    simp only [Act.put, List.setIfInBounds_toArray, List.set_cons_zero, List.set_cons_succ]
    refine wpAnyH_skip 11 (d := (some 16)) (by kernel_rfl) (by kernel_rfl) (by kernel_rfl) (by kernel_rfl) (fun _ _ _ h => h) (by assumption) ?_
    simp only [Act.put, List.setIfInBounds_toArray, List.set_cons_zero, List.set_cons_succ]
    refine wpAnyH_skip 12 (d := (some 17)) (by kernel_rfl) (by kernel_rfl) (by kernel_rfl) (by kernel_rfl) (fun _ _ _ h => h) (by assumption) ?_
    simp only [Act.put, List.setIfInBounds_toArray, List.set_cons_zero, List.set_cons_succ]
    refine wpAnyH_skip 13 (d := (some 18)) (by kernel_rfl) (by kernel_rfl) (by kernel_rfl) (by kernel_rfl) (fun _ _ _ h => h) (by assumption) ?_
    simp only [Act.put, List.setIfInBounds_toArray, List.set_cons_zero, List.set_cons_succ]
    refine wpAnyH_takeD 14 (d := (some 19)) (v := ?_) rfl rfl (by kernel_rfl) (by kernel_rfl) (by kernel_rfl) (by kernel_rfl) (fun _ _ _ h => h) ?_ (by assumption) ?_
    rotate_left
    · intro ww hSw; (try dsimp only at hSw); first | (go_simp; done) | (go_simp; with_reducible rfl)
    simp only [Act.put, List.setIfInBounds_toArray, List.set_cons_zero, List.set_cons_succ]
    refine wpAnyH_takeD 15 (d := (some 4)) (v := ?_) rfl rfl (by kernel_rfl) (by kernel_rfl) (by kernel_rfl) (by kernel_rfl) (fun _ _ _ h => h) ?_ (by assumption) ?_
    rotate_left
    · intro ww hSw; (try dsimp only at hSw); first | (go_simp; done) | (go_simp; with_reducible rfl)
    simp only [Act.put, List.setIfInBounds_toArray, List.set_cons_zero, List.set_cons_succ]
    refine wpAnyH_done (by kernel_rfl) ?_ _
    go_wp2_with fail
    go_ret
    exact ⟨rfl, hb.trans (hby.mono hb.size)⟩
end Go.Proofs.Ytfkkppagbhllgaa

/-
  THE STEPS OF tga's pieces and of the iterator that it hands back.
-/
set_option linter.unusedVariables false
set_option linter.unusedSimpArgs false
namespace Go.Proofs.Ytfkkppagbhllgaa
open Go.RowKit Go.Shelf

theorem pieces_any (z : Nat) (l : List UInt8) (w : World) :
    Calls Try.prog 51 #[rowV z l] w fun e w' =>
      e = .returned (.func (.func 65) #[] #[.pointer (some ⟨w.heap.size, 0, none⟩)]) ∧
      w' = w.alloc (.cells #[.string ⟨l.toArray⟩, .int .i64 (z : Int)] 48) := by
  unfold rowV
  go_enter Try.func51, Try.ntmps51
  go_wp2_with fail
  go_ret
  exact ⟨rfl, rfl⟩

attribute [local go_sem] Oper.semAt_some

/-- a piece of a row -/
abbrev PcI (z : Nat) (s : List UInt8) := { p : Nat × Nat × Bool // p.1 < manyT z s ∧ p = (p.1, pendT z s p.1, sameT z s p.1) }
def pvals {z : Nat} {s : List UInt8} (l : List (PcI z s)) : List (Nat × Nat × Bool) := l.map Subtype.val
theorem pvals_snoc {z : Nat} {s : List UInt8} (l : List (PcI z s)) (t : PcI z s) : pvals (l ++ [t]) = pvals l ++ [t.1] := by simp [pvals]
theorem pvals_len {z : Nat} {s : List UInt8} (l : List (PcI z s)) : (pvals l).length = l.length := by simp [pvals]
def pcV (p : Nat × Nat × Bool) : Array Value := #[.agg #[.int .i64 (p.1 : Int), .int .i64 (p.2.1 : Int)], .bool p.2.2]
/-- what a round keeps of the row's variable -/
def KeepB (b : Nat) (A B : World) : Prop := B.heap[b]? = A.heap[b]? ∧ A.heap.size ≤ B.heap.size
theorem KeepB.trans {b : Nat} {A B C : World} (h : KeepB b A B) (k : KeepB b B C) : KeepB b A C := ⟨k.1.trans h.1, Nat.le_trans h.2 k.2⟩
theorem KeepB.of_below {b D : Nat} {A B : World} (h : Below D A B) (hb : b < D) : KeepB b A B := ⟨h.block b hb, h.size⟩
theorem KeepB.cell {b : Nat} {A B : World} (h : KeepB b A B) (j : Nat) : B.cell? ⟨b, j, none⟩ = A.cell? ⟨b, j, none⟩ := by simp [World.cell?, h.1]
theorem abide_below {β : Type} {B : Nat} {J : β → World → Prop} (h : AbidesFrom B J) {s : β} {W W' : World} (hs : J s W) (hb : Below W.heap.size W W') : J s W' :=
  h s W W' none hs ⟨hb.os, hb.tape, hb.output, hb.size, fun k hk _ => hb.block k hk⟩ (fun r e => by cases e)

set_option maxRecDepth 100000 in
set_option maxHeartbeats 6400000 in
theorem pieces1_in (m : Nat) (hm : 1 ≤ m) (l bp z : Nat) (s : List UInt8) (hz : z = 3 ∨ z = 4) (hl : s.length ≤ 1000000) (J Jx : List (PcI z s) → World → Prop) (W : World)
    (hJa : AbidesFrom W.heap.size J)
    (hY : ∀ pre t W1, J pre W1 → pre.length < (piecesT z s (manyT z s) 0).length → YieldAt Fence.wide (m - 1) Try.prog l (pcV t.1) W1 fun e W' =>
      (e = .returned (.bool true) ∧ J (pre ++ [t]) W' ∧ KeepB bp W1 W') ∨ (e = .returned (.bool false) ∧ Jx (pre ++ [t]) W'))
    (c0 : W.cell? ⟨bp, 0, none⟩ = some (.string ⟨s.toArray⟩)) (c1 : W.cell? ⟨bp, 1, none⟩ = some (.int .i64 (z : Int))) (hbp : bp < W.heap.size) (h0 : J [] W) :
    CallsIn Fence.wide m Try.prog 65 #[.func (.yield l) #[] #[], .pointer (some ⟨bp, 0, none⟩)] W fun e W' => (∃ v, e = .returned v) ∧
      ((∃ ys, pvals ys = piecesT z s (manyT z s) 0 ∧ J ys W') ∨ (∃ pre, True ∧ Jx pre W')) := by
  have HY := Lib.hid hY; clear hY
  have HJA := Lib.hid hJa; clear hJa
  have KM := Lib.hid (fun W' => many_any z s W' hz hl)
  have KS := Lib.hid (fun i W' => same_any z s i W' hz hl)
  have hmb : manyT z s ≤ 1000000 := Nat.le_trans (Nat.div_le_self _ _) hl
  unfold rowV at *
  obtain ⟨M, hM⟩ : ∃ M, M = manyT z s := ⟨_, rfl⟩
  obtain ⟨T, hT⟩ : ∃ T, T = piecesT z s (manyT z s) 0 := ⟨_, rfl⟩
  rw [← hT] at HY ⊢
  rw [← hM] at KM KS hmb hT
  have HM := Lib.hid hM; clear hM
  refine callsIn_of_wp Try.func65 rfl trivial ?_ rfl
  simp only [Try.ntmps65, List.size_toArray, List.length_cons, List.length_nil, Nat.reduceAdd, Nat.reduceSub, Array.replicate_succ, Array.replicate_zero, List.push_toArray, List.append_toArray, List.nil_append, List.cons_append]
  gi_wp2
  gi_loopw [3] (fun u wr => ∃ (f n : Nat) (pre : List (PcI z s)), u = .int .i64 (f : Int) ∧ f ≤ M ∧ M ≤ f + n ∧ Hid (pvals pre ++ piecesT z s n f = T) ∧ Hid (J pre wr) ∧ KeepB bp W wr) (fun u _ => M - (intOf u).toNat)
  case atStart => exact ⟨0, M, [], rfl, by omega, by omega, Lib.hid hT.symm, Lib.hid h0, rfl, Nat.le_refl _⟩
  case round =>
    obtain ⟨f, n, pre, rfl, hf, hn, hpre, hJ, hK⟩ := hrel
    have d0 := (hK.cell 0).trans c0
    have d1 := (hK.cell 1).trans c1
    have hbr : bp < wr.heap.size := Nat.lt_of_lt_of_le hbp hK.2
    have HK := Lib.hid hK; clear hK
    by_cases hlt : f < M
    · have t0 : decide ((f : Int) < (M : Int)) = true := decide_eq_true (by omega)
      gi_wp2
      refine ⟨trivial, (callsIn_wide.2 (KM.out _)).mono ?_⟩
      rintro e w1 ⟨rfl, hb1⟩
      have hJ := Lib.hid (abide_below HJA.out hJ.out hb1)
      have d0 : w1.cell? ⟨bp, 0, none⟩ = some (.string ⟨s.toArray⟩) := by rw [hb1.cell (by dsimp only; omega)]; exact d0
      have d1 : w1.cell? ⟨bp, 1, none⟩ = some (.int .i64 (z : Int)) := by rw [hb1.cell (by dsimp only; omega)]; exact d1
      have HK := Lib.hid (HK.out.trans (KeepB.of_below hb1 hbr))
      have hbr : bp < w1.heap.size := Nat.lt_of_lt_of_le hbr hb1.size
      clear hb1
      gi_wp2
      refine ⟨trivial, (callsIn_wide.2 (KS.out f _ hlt)).mono ?_⟩
      rintro e w2 ⟨rfl, hb2⟩
      have hJ := Lib.hid (abide_below HJA.out hJ.out hb2)
      have d0 : w2.cell? ⟨bp, 0, none⟩ = some (.string ⟨s.toArray⟩) := by rw [hb2.cell (by dsimp only; omega)]; exact d0
      have d1 : w2.cell? ⟨bp, 1, none⟩ = some (.int .i64 (z : Int)) := by rw [hb2.cell (by dsimp only; omega)]; exact d1
      have HK := Lib.hid (HK.out.trans (KeepB.of_below hb2 hbr))
      have hbr : bp < w2.heap.size := Nat.lt_of_lt_of_le hbr hb2.size
      clear hb2
      obtain ⟨run, hrun⟩ : ∃ r, r = sameT z s f := ⟨_, rfl⟩
      rw [← hrun]
      have HRUN := Lib.hid hrun; clear hrun
      obtain ⟨L, hL⟩ : ∃ L, L = limT z s f := ⟨_, rfl⟩
      have hLb : L ≤ M ∧ L ≤ f + 128 ∧ f + 1 ≤ L ∧ (M ≤ L ∨ f + 128 ≤ L) := by rw [hL]; unfold limT; rw [← HM.out]; omega
      obtain ⟨hL1, hL2, hL3, hL4⟩ := hLb
      have HE0 : Hid (endT (okT z s run) (L - (f + 1)) (f + 1) = pendT z s f) := Lib.hid (by unfold pendT; rw [← HRUN.out, ← hL])
      clear hL
      gi_wp2
      gi_loopw [5] (fun u wr => ∃ tq : Nat, u = .int .i64 (tq : Int) ∧ f + 1 ≤ tq ∧ tq ≤ L ∧ Hid (endT (okT z s run) (L - tq) tq = pendT z s f) ∧ Hid (J pre wr) ∧ KeepB bp W wr) (fun u _ => L - (intOf u).toNat)
      case atStart => exact ⟨f + 1, by go_num, by omega, hL3, HE0, hJ, HK.out⟩
      case round =>
        clear HE0 hJ HK d0 d1 hbr
        obtain ⟨tq, rfl, hto1, hto2, hE, hJ, hK⟩ := hrel
        have d0 := (hK.cell 0).trans c0
        have d1 := (hK.cell 1).trans c1
        have hbr : bp < wr.heap.size := Nat.lt_of_lt_of_le hbp hK.2
        have HK := Lib.hid hK; clear hK
        have w1 : IntKind.i64.wrap ((tq : Int) - 1) = (tq : Int) - 1 := by rw [IntKind.wrap_i64]; omega
        have w2 : IntKind.i64.wrap ((tq : Int) - (f : Int)) = (tq : Int) - (f : Int) := by rw [IntKind.wrap_i64]; omega
        have e9 : ((tq - 1 : Nat) : Int) = (tq : Int) - 1 := by omega
        gi_wp2
        refine ⟨trivial, (callsIn_wide.2 (KM.out _)).mono ?_⟩
        rintro e w3 ⟨rfl, hb3⟩
        have hJ := Lib.hid (abide_below HJA.out hJ.out hb3)
        have d0 : w3.cell? ⟨bp, 0, none⟩ = some (.string ⟨s.toArray⟩) := by rw [hb3.cell (by dsimp only; omega)]; exact d0
        have d1 : w3.cell? ⟨bp, 1, none⟩ = some (.int .i64 (z : Int)) := by rw [hb3.cell (by dsimp only; omega)]; exact d1
        have HK := Lib.hid (HK.out.trans (KeepB.of_below hb3 hbr))
        have hbr : bp < w3.heap.size := Nat.lt_of_lt_of_le hbr hb3.size
        clear hb3
        by_cases h1 : tq < M
        · have t1 : decide ((tq : Int) < (M : Int)) = true := decide_eq_true (by omega)
          by_cases h2 : tq < f + 128
          · have t2 : decide ((tq : Int) - (f : Int) < 128) = true := decide_eq_true (by omega)
            have hlim : tq < L := by omega
            cases run with
            | true =>
              have K1 := KS.out (tq - 1) w3 (by omega)
              rw [e9] at K1
              have HK1 := Lib.hid K1; clear K1
              gi_wp2
              refine ⟨trivial, (callsIn_wide.2 HK1.out).mono ?_⟩
              clear HK1
              rintro e w4 ⟨rfl, hb4⟩
              have hJ := Lib.hid (abide_below HJA.out hJ.out hb4)
              have d0 : w4.cell? ⟨bp, 0, none⟩ = some (.string ⟨s.toArray⟩) := by rw [hb4.cell (by dsimp only; omega)]; exact d0
              have d1 : w4.cell? ⟨bp, 1, none⟩ = some (.int .i64 (z : Int)) := by rw [hb4.cell (by dsimp only; omega)]; exact d1
              have HK := Lib.hid (HK.out.trans (KeepB.of_below hb4 hbr))
              have hbr : bp < w4.heap.size := Nat.lt_of_lt_of_le hbr hb4.size
              clear hb4
              cases hsm : sameT z s (tq - 1) with
              | true =>
                have HE2 : Hid (endT (okT z s true) (L - (tq + 1)) (tq + 1) = pendT z s f) := Lib.hid (by rw [← endT_step hlim (by unfold okT; rw [if_pos rfl]; exact hsm)]; exact hE.out)
                clear hsm
                gi_wp2
                all_goals try (exfalso; rename_i h1 h2; injection h1 with h1; cases h1; done)
                refine ⟨trivial, ?_⟩
                gi_wp2
                go_roundw
                case rel => exact ⟨tq + 1, by go_num, by omega, by omega, HE2, hJ, HK.out⟩
                case measure => simp only [intOf]; omega
              | false =>
                have HE2 : Hid (tq = pendT z s f) := Lib.hid (by rw [← hE.out, endT_off (fun _ => by unfold okT; rw [if_pos rfl]; exact hsm)])
                clear hsm
                gi_wp2
                all_goals try (exfalso; rename_i h1 h2; injection h1 with h1; cases h1; done)
                refine ⟨trivial, ?_⟩
                obtain ⟨n', rfl⟩ : ∃ n', n = n' + 1 := ⟨n - 1, by omega⟩
                have HP : Hid (pvals (pre ++ [(⟨(f, tq, true), by rw [← HM.out]; exact hlt, by rw [← HE2.out, ← HRUN.out]⟩ : PcI z s)]) ++ piecesT z s n' tq = T) := Lib.hid (by
                  have e : pvals (pre ++ [(⟨(f, tq, true), by rw [← HM.out]; exact hlt, by rw [← HE2.out, ← HRUN.out]⟩ : PcI z s)]) = pvals pre ++ [(f, tq, true)] := pvals_snoc _ _
                  rw [e, ← hpre.out, piecesT, if_pos (by rw [← HM.out]; exact hlt), ← HE2.out, ← HRUN.out]
                  simp)
                have hlen : pre.length < T.length := by
                  have := congrArg List.length HP.out
                  rw [List.length_append, pvals_len] at this
                  simp at this; omega
                obtain ⟨fn, tmps, assign, body, hy, hR⟩ := HY.out pre (⟨(f, tq, true), by rw [← HM.out]; exact hlt, by rw [← HE2.out, ← HRUN.out]⟩ : PcI z s) _ hJ.out hlen
                dsimp only [pcV] at hy
                clear hlen
                gi_wp2
                refine hR.mono ?_
                rintro e W3 (⟨rfl, hJ3, hk3⟩ | ⟨rfl, hJx3⟩)
                · have HK3 := Lib.hid (HK.out.trans hk3)
                  have HJ3 := Lib.hid hJ3; clear hJ3 hk3
                  gi_wp2
                  go_roundw
                  case rel => exact ⟨tq, n', _, rfl, by omega, by omega, HP, HJ3, HK3.out⟩
                  case measure => simp only [intOf]; omega
                · have HJx := Lib.hid hJx3; clear hJx3
                  gi_wp2
                  refine bodyPost_ret (results_none rfl _ _ _) rfl ?_
                  exact ⟨⟨_, rfl⟩, .inr ⟨_, trivial, HJx.out⟩⟩
            | false =>
              have HK1 := Lib.hid (KS.out tq w3 (by omega))
              gi_wp2
              refine ⟨trivial, ?_⟩
              gi_wp2
              refine ⟨trivial, (callsIn_wide.2 HK1.out).mono ?_⟩
              clear HK1
              rintro e w4 ⟨rfl, hb4⟩
              have hJ := Lib.hid (abide_below HJA.out hJ.out hb4)
              have d0 : w4.cell? ⟨bp, 0, none⟩ = some (.string ⟨s.toArray⟩) := by rw [hb4.cell (by dsimp only; omega)]; exact d0
              have d1 : w4.cell? ⟨bp, 1, none⟩ = some (.int .i64 (z : Int)) := by rw [hb4.cell (by dsimp only; omega)]; exact d1
              have HK := Lib.hid (HK.out.trans (KeepB.of_below hb4 hbr))
              have hbr : bp < w4.heap.size := Nat.lt_of_lt_of_le hbr hb4.size
              clear hb4
              cases hsm : sameT z s tq with
              | false =>
                have HE2 : Hid (endT (okT z s false) (L - (tq + 1)) (tq + 1) = pendT z s f) := Lib.hid (by rw [← endT_step hlim (by unfold okT; rw [if_neg (by simp), hsm]; rfl)]; exact hE.out)
                clear hsm
                gi_wp2
                go_roundw
                case rel => exact ⟨tq + 1, by go_num, by omega, by omega, HE2, hJ, HK.out⟩
                case measure => simp only [intOf]; omega
              | true =>
                have HE2 : Hid (tq = pendT z s f) := Lib.hid (by rw [← hE.out, endT_off (fun _ => by unfold okT; rw [if_neg (by simp), hsm]; rfl)])
                clear hsm
                obtain ⟨n', rfl⟩ : ∃ n', n = n' + 1 := ⟨n - 1, by omega⟩
                have HP : Hid (pvals (pre ++ [(⟨(f, tq, false), by rw [← HM.out]; exact hlt, by rw [← HE2.out, ← HRUN.out]⟩ : PcI z s)]) ++ piecesT z s n' tq = T) := Lib.hid (by
                  have e : pvals (pre ++ [(⟨(f, tq, false), by rw [← HM.out]; exact hlt, by rw [← HE2.out, ← HRUN.out]⟩ : PcI z s)]) = pvals pre ++ [(f, tq, false)] := pvals_snoc _ _
                  rw [e, ← hpre.out, piecesT, if_pos (by rw [← HM.out]; exact hlt), ← HE2.out, ← HRUN.out]
                  simp)
                have hlen : pre.length < T.length := by
                  have := congrArg List.length HP.out
                  rw [List.length_append, pvals_len] at this
                  simp at this; omega
                obtain ⟨fn, tmps, assign, body, hy, hR⟩ := HY.out pre (⟨(f, tq, false), by rw [← HM.out]; exact hlt, by rw [← HE2.out, ← HRUN.out]⟩ : PcI z s) _ hJ.out hlen
                dsimp only [pcV] at hy
                clear hlen
                gi_wp2
                refine hR.mono ?_
                rintro e W3 (⟨rfl, hJ3, hk3⟩ | ⟨rfl, hJx3⟩)
                · have HK3 := Lib.hid (HK.out.trans hk3)
                  have HJ3 := Lib.hid hJ3; clear hJ3 hk3
                  gi_wp2
                  go_roundw
                  case rel => exact ⟨tq, n', _, rfl, by omega, by omega, HP, HJ3, HK3.out⟩
                  case measure => simp only [intOf]; omega
                · have HJx := Lib.hid hJx3; clear hJx3
                  gi_wp2
                  refine bodyPost_ret (results_none rfl _ _ _) rfl ?_
                  exact ⟨⟨_, rfl⟩, .inr ⟨_, trivial, HJx.out⟩⟩
          · have t2 : decide ((tq : Int) - (f : Int) < 128) = false := decide_eq_false (by omega)
            have HE2 : Hid (tq = pendT z s f) := Lib.hid (by rw [← hE.out, endT_off (fun h => by omega)])
            gi_wp2
            all_goals try (exfalso; rename_i h1 h2; injection h1 with h1; cases h1; done)
            refine ⟨trivial, ?_⟩
            gi_wp2
            all_goals try (exfalso; rename_i h1 h2; injection h1 with h1; cases h1; done)
            refine ⟨trivial, ?_⟩
            obtain ⟨n', rfl⟩ : ∃ n', n = n' + 1 := ⟨n - 1, by omega⟩
            have HP : Hid (pvals (pre ++ [(⟨(f, tq, run), by rw [← HM.out]; exact hlt, by rw [← HE2.out, ← HRUN.out]⟩ : PcI z s)]) ++ piecesT z s n' tq = T) := Lib.hid (by
              have e : pvals (pre ++ [(⟨(f, tq, run), by rw [← HM.out]; exact hlt, by rw [← HE2.out, ← HRUN.out]⟩ : PcI z s)]) = pvals pre ++ [(f, tq, run)] := pvals_snoc _ _
              rw [e, ← hpre.out, piecesT, if_pos (by rw [← HM.out]; exact hlt), ← HE2.out, ← HRUN.out]
              simp)
            have hlen : pre.length < T.length := by
              have := congrArg List.length HP.out
              rw [List.length_append, pvals_len] at this
              simp at this; omega
            obtain ⟨fn, tmps, assign, body, hy, hR⟩ := HY.out pre (⟨(f, tq, run), by rw [← HM.out]; exact hlt, by rw [← HE2.out, ← HRUN.out]⟩ : PcI z s) _ hJ.out hlen
            dsimp only [pcV] at hy
            clear hlen
            gi_wp2
            refine hR.mono ?_
            rintro e W3 (⟨rfl, hJ3, hk3⟩ | ⟨rfl, hJx3⟩)
            · have HK3 := Lib.hid (HK.out.trans hk3)
              have HJ3 := Lib.hid hJ3; clear hJ3 hk3
              gi_wp2
              go_roundw
              case rel => exact ⟨tq, n', _, rfl, by omega, by omega, HP, HJ3, HK3.out⟩
              case measure => simp only [intOf]; omega
            · have HJx := Lib.hid hJx3; clear hJx3
              gi_wp2
              refine bodyPost_ret (results_none rfl _ _ _) rfl ?_
              exact ⟨⟨_, rfl⟩, .inr ⟨_, trivial, HJx.out⟩⟩
        · have t1 : decide ((tq : Int) < (M : Int)) = false := decide_eq_false (by omega)
          have HE2 : Hid (tq = pendT z s f) := Lib.hid (by rw [← hE.out, endT_off (fun h => by omega)])
          gi_wp2
          all_goals try (exfalso; rename_i h1 h2; injection h1 with h1; cases h1; done)
          refine ⟨trivial, ?_⟩
          gi_wp2
          all_goals try (exfalso; rename_i h1 h2; injection h1 with h1; cases h1; done)
          refine ⟨trivial, ?_⟩
          obtain ⟨n', rfl⟩ : ∃ n', n = n' + 1 := ⟨n - 1, by omega⟩
          have HP : Hid (pvals (pre ++ [(⟨(f, tq, run), by rw [← HM.out]; exact hlt, by rw [← HE2.out, ← HRUN.out]⟩ : PcI z s)]) ++ piecesT z s n' tq = T) := Lib.hid (by
            have e : pvals (pre ++ [(⟨(f, tq, run), by rw [← HM.out]; exact hlt, by rw [← HE2.out, ← HRUN.out]⟩ : PcI z s)]) = pvals pre ++ [(f, tq, run)] := pvals_snoc _ _
            rw [e, ← hpre.out, piecesT, if_pos (by rw [← HM.out]; exact hlt), ← HE2.out, ← HRUN.out]
            simp)
          have hlen : pre.length < T.length := by
            have := congrArg List.length HP.out
            rw [List.length_append, pvals_len] at this
            simp at this; omega
          obtain ⟨fn, tmps, assign, body, hy, hR⟩ := HY.out pre (⟨(f, tq, run), by rw [← HM.out]; exact hlt, by rw [← HE2.out, ← HRUN.out]⟩ : PcI z s) _ hJ.out hlen
          dsimp only [pcV] at hy
          clear hlen
          gi_wp2
          refine hR.mono ?_
          rintro e W3 (⟨rfl, hJ3, hk3⟩ | ⟨rfl, hJx3⟩)
          · have HK3 := Lib.hid (HK.out.trans hk3)
            have HJ3 := Lib.hid hJ3; clear hJ3 hk3
            gi_wp2
            go_roundw
            case rel => exact ⟨tq, n', _, rfl, by omega, by omega, HP, HJ3, HK3.out⟩
            case measure => simp only [intOf]; omega
          · have HJx := Lib.hid hJx3; clear hJx3
            gi_wp2
            refine bodyPost_ret (results_none rfl _ _ _) rfl ?_
            exact ⟨⟨_, rfl⟩, .inr ⟨_, trivial, HJx.out⟩⟩
    · have t0 : decide ((f : Int) < (M : Int)) = false := decide_eq_false (by omega)
      gi_wp2
      refine ⟨trivial, (callsIn_wide.2 (KM.out _)).mono ?_⟩
      rintro e w1 ⟨rfl, hb1⟩
      have hJ := Lib.hid (abide_below HJA.out hJ.out hb1)
      have d0 : w1.cell? ⟨bp, 0, none⟩ = some (.string ⟨s.toArray⟩) := by rw [hb1.cell (by dsimp only; omega)]; exact d0
      have d1 : w1.cell? ⟨bp, 1, none⟩ = some (.int .i64 (z : Int)) := by rw [hb1.cell (by dsimp only; omega)]; exact d1
      have HK := Lib.hid (HK.out.trans (KeepB.of_below hb1 hbr))
      have hbr : bp < w1.heap.size := Nat.lt_of_lt_of_le hbr hb1.size
      clear hb1
      have HFIN : Hid (pvals pre = T) := Lib.hid (by
        rw [← hpre.out]
        cases n with
        | zero => simp [piecesT]
        | succ n => rw [piecesT, if_neg (by rw [← HM.out]; exact hlt)]; simp)
      gi_wp2
      go_end0
      exact ⟨⟨_, rfl⟩, .inl ⟨pre, HFIN.out, hJ.out⟩⟩
end Go.Proofs.Ytfkkppagbhllgaa

/-
  A strings.Builder OF THE CALL's OWN: copyCheck, WriteByte, WriteString, Len, String at this seat (its copyCheck ends in a refusal where the shelf's body panics: the shelf's writers cannot be laid there).
-/
set_option linter.unusedVariables false
set_option linter.unusedSimpArgs false
set_option maxRecDepth 100000
namespace Go.Proofs.Ytfkkppagbhllgaa
open Go.RowKit

/-- block b is a builder of the call's own (its memory from B on) that holds the bytes l -/
def Bld (w : World) (B b : Nat) (l : List UInt8) : Prop := Lib.IsBuilderF 52 5 B b (Lib.byteCells l) w
theorem size_bld : (Try.prog.info? 52).map (·.size) = some 2 := by kernel_rfl
theorem lies_bld : liesAt Try.prog Try.prog.depth 52 (2 / Try.prog.cellsOf 52) 0 52 1 = true := by kernel_rfl
theorem size_u8 : (Try.prog.info? 5).map (fun i => (i.zero, i.size, i.bytes)) = some (some (.int .u8 0), 1, 1) := by kernel_rfl
theorem Bld.new (w : World) (b B : Nat) (hb : b = w.heap.size) (hB : B ≤ b) : Bld (w.alloc (.cells #[.pointer none, .slice none 0 0] 52)) B b [] := by
  subst hb
  exact .inl ⟨hB, .slice none 0 0, heap_alloc_new w _, World.ownsRowF_nil _ _ _ _, by simp [Value.ownBlock]⟩

theorem cc_used (b : Nat) (w : World) (h0 : w.cell? ⟨b, 0, none⟩ = some (.pointer (some ⟨b, 0, none⟩))) :
    Calls Try.prog 54 #[.pointer (some ⟨b, 0, none⟩)] w fun e w' => e = .returned (.tuple #[]) ∧ w' = w := by
  obtain ⟨j, hj, _⟩ := Option.map_eq_some_iff.1 size_bld
  go_enter Try.func54, Try.ntmps54
  go_wp2
  rw [Lib.run_neq_ptr_same w _ Try.underlying50 hj]
  go_wp2
  go_end0
  exact ⟨rfl, rfl⟩
theorem cc_fresh (b : Nat) (w : World) (h0 : w.cell? ⟨b, 0, none⟩ = some (.pointer none)) (hsh : w.shape? b = some (52, 2)) (hfz : w.frozen? ⟨b, 0, none⟩ = false) :
    Calls Try.prog 54 #[.pointer (some ⟨b, 0, none⟩)] w fun e w' => e = .returned (.tuple #[]) ∧ w' = w.setCell ⟨b, 0, none⟩ (.pointer (some ⟨b, 0, none⟩)) := by
  obtain ⟨j, hj, hjs⟩ := Option.map_eq_some_iff.1 size_bld
  go_enter Try.func54, Try.ntmps54
  go_wp2
  rw [Lib.run_to_unsafe w ⟨b, 0, none⟩ Try.underlying50 Try.underlying102 hj (by rw [hjs]; decide) hsh (Nat.zero_lt_succ 1)]
  simp only [Result.andThen]
  rw [Oper.upon_value]
  go_wp2
  rw [run_callFunc_extern Try.func68 (by kernel_rfl) (by kernel_rfl) (by kernel_rfl) (e := Extern.AbiNoEscape.same) (by kernel_rfl)]
  rw [Lib.run_noEscape]
  simp only [Result.andThen]
  rw [Oper.upon_value]
  go_wp2
  rw [Lib.run_from_unsafe w ⟨b, 0, none⟩ Try.underlying102 Try.underlying50 hj hsh lies_bld]
  simp only [Result.andThen]
  rw [Oper.upon_value]
  go_wp2
  go_end0
  exact ⟨rfl, rfl⟩
theorem cc_any (B b : Nat) (bs : List Value) (w : World) (h : Lib.IsBuilderF 52 5 B b bs w) :
    Calls Try.prog 54 #[.pointer (some ⟨b, 0, none⟩)] w fun e w' => e = .returned (.tuple #[]) ∧
      Lib.BuilderAtF 52 5 B b (.pointer (some ⟨b, 0, none⟩)) bs w' ∧ Below B w w' ∧ Lib.OthersKept 5 (some b) w w' := by
  rcases h with h | h
  · refine (cc_fresh b w h.cell0 h.shape h.frozen0).mono ?_
    rintro e w' ⟨rfl, rfl⟩
    exact ⟨rfl, h.used _, (Below.refl B w).setCell (p := ⟨b, 0, none⟩) h.1 _, (Lib.OthersKept.refl _ _ w).setCell ⟨b, 0, none⟩ rfl _⟩
  · refine (cc_used b w h.cell0).mono ?_
    rintro e w' ⟨rfl, rfl⟩
    exact ⟨rfl, h, Below.refl B _, Lib.OthersKept.refl _ _ _⟩
/-- what a writing hands on -/
structure Wrote (w w' : World) (B b : Nat) (l : List UInt8) : Prop where
  is : Bld w' B b l
  below : Below B w w'
  others : Lib.OthersKept 5 (some b) w w'
theorem bytes_snoc (l : List UInt8) (c : UInt8) : Lib.byteCells (l ++ [c]) = Lib.byteCells l ++ [.int .u8 (c.toNat : Int)] := by simp [Lib.byteCells]
theorem bytes_app (l s : List UInt8) : Lib.byteCells (l ++ s) = Lib.byteCells l ++ Lib.strCells ⟨s.toArray⟩ := by simp [Lib.byteCells, Lib.strCells]
theorem bytes_len (l : List UInt8) : (Lib.byteCells l).length = l.length := by simp [Lib.byteCells]

set_option maxHeartbeats 2000000 in
theorem wbyte_any (B b : Nat) (l : List UInt8) (c : UInt8) (w : World) (h : Bld w B b l) (hlen : l.length ≤ 100000000000) (hBw : B ≤ w.heap.size) :
    Calls Try.prog 52 #[.pointer (some ⟨b, 0, none⟩), .int .u8 (c.toNat : Int)] w fun e w' => e = .returned .nilIface ∧ Wrote w w' B b (l ++ [c]) := by
  obtain ⟨i0, hi, hz0, hz1, hz2⟩ := info_parts size_u8
  have hlen : (Lib.byteCells l).length ≤ 100000000000 := by rw [bytes_len]; exact hlen
  have FIN : Hid (∀ w', Bld w' B b (l ++ [c]) → Below B w w' → Lib.OthersKept 5 (some b) w w' → Wrote w w' B b (l ++ [c])) := Lib.hid fun w' h1 h2 h3 => ⟨h1, h2, h3⟩
  unfold Bld at *
  rw [bytes_snoc] at FIN
  generalize hQ : Wrote w = Qp at FIN ⊢
  clear hQ
  have hc0 : (0 : Int) ≤ (c.toNat : Int) ∧ (c.toNat : Int) ≤ 255 := by have := c.toNat_lt; omega
  have K := Lib.hid (cc_any B b _ w h)
  clear h
  generalize (c.toNat : Int) = x at *
  generalize Lib.byteCells l = bs at *
  go_enter Try.func52, Try.ntmps52
  go_wp2_with fail
  refine K.out.mono ?_
  clear K
  rintro e w1 ⟨rfl, h1, hb1, hk1⟩
  obtain ⟨hB, v, hbk, hown, hne⟩ := h1
  have c0 : w1.cell? ⟨b, 0, none⟩ = some (.pointer (some ⟨b, 0, none⟩)) := by rw [Lib.cell_of_heap hbk]; rfl
  have c1 : w1.cell? ⟨b, 1, none⟩ = some v := by rw [Lib.cell_of_heap hbk]; rfl
  go_wp2_with (at_builtin; refine wpList_append_ownF _ rfl _ _ 22 rfl B 5 i0 (.int .u8 0) 1 1 Try.underlying22 hi hz0 hz1 hz2 rfl (by decide) _ _ _ rfl (hown.alloc _) ⟨w1.heap.size, 0, none⟩ 1 1 [.int .u8 x] rfl rfl ?c1 ?c2 ?c3 ?c4 ?c5 ?_)
  case c1 =>
    intro j u hj
    match j, hj with
    | 0, hj => simp at hj; subst hj; simp [Addr.add]
  case c2 => intro u hu; simp at hu; subst hu; rfl
  case c3 => unfold maxLen; omega
  case c4 => omega
  case c5 => have := hb1.size; simp; omega
  intro v' w2 hown' hgrow _
  have hlt : b < w1.heap.size := (Array.getElem?_eq_some_iff.1 hbk).1
  have hb2 : w2.heap[b]? = some (.cells #[.pointer (some ⟨b, 0, none⟩), v] 52 (0, 0)) := by
    rw [hgrow.block b (by simp; omega) (fun e => hne e.symm), Lib.alloc_old w1 _ b hlt]
    exact hbk
  have d0 : w2.cell? ⟨b, 0, none⟩ = some (.pointer (some ⟨b, 0, none⟩)) := by rw [Lib.cell_of_heap hb2]; rfl
  have d1 : w2.cell? ⟨b, 1, none⟩ = some v := by rw [Lib.cell_of_heap hb2]; rfl
  have f1 : w2.frozen? ⟨b, 1, none⟩ = false := Lib.frozen_of_heap hb2 1
  obtain ⟨g, cap, rfl⟩ : ∃ g cap, v' = .slice (some ⟨g, 0, none⟩) (bs.length + 1) cap := by
    rcases hown'.2 with ⟨_, h0⟩ | ⟨g, cap, cur, fz, hv, _⟩
    · omega
    · exact ⟨g, cap, hv⟩
  go_wp2_with fail
  go_ret
  refine ⟨rfl, FIN.out _ ?_ ?_ (((hk1.alloc _).grown hgrow (Lib.ownsRowF_kind (hown.alloc _))).setCell ⟨b, 1, none⟩ rfl _)⟩
  · exact .inr (Lib.BuilderAtF.put hB hb2 (bs' := bs ++ [.int .u8 x]) (by simpa using hown') (by decide))
  · exact ((hb1.alloc (by have := hb1.size; omega) _).grown hgrow (by have := hb1.size; simp; omega) (fun k hk => (hown.lt k hk).1)).setCell (p := ⟨b, 1, none⟩) hB _

set_option maxHeartbeats 2000000 in
theorem wstr_any (B b : Nat) (l s : List UInt8) (w : World) (h : Bld w B b l) (hlen : l.length + s.length ≤ 100000000000) (hBw : B ≤ w.heap.size) :
    Calls Try.prog 30 #[.pointer (some ⟨b, 0, none⟩), .string ⟨s.toArray⟩] w fun e w' => e = .returned (.tuple #[.int .i64 (s.length : Int), .nilIface]) ∧ Wrote w w' B b (l ++ s) := by
  obtain ⟨i0, hi, hz0, hz1, hz2⟩ := info_parts size_u8
  have hlen : (Lib.byteCells l).length + s.length ≤ 100000000000 := by rw [bytes_len]; exact hlen
  have FIN : Hid (∀ w', Bld w' B b (l ++ s) → Below B w w' → Lib.OthersKept 5 (some b) w w' → Wrote w w' B b (l ++ s)) := Lib.hid fun w' h1 h2 h3 => ⟨h1, h2, h3⟩
  unfold Bld at *
  rw [bytes_app] at FIN
  generalize hQ : Wrote w = Qp at FIN ⊢
  clear hQ
  have K := Lib.hid (cc_any B b _ w h)
  clear h
  have hss : (⟨s.toArray⟩ : ByteArray).size = s.length := by simp [ByteArray.size]
  rw [← hss] at hlen ⊢
  clear hss
  generalize (⟨s.toArray⟩ : ByteArray) = S at *
  generalize Lib.byteCells l = bs at *
  go_enter Try.func30, Try.ntmps30
  go_wp2_with fail
  refine K.out.mono ?_
  clear K
  rintro e w1 ⟨rfl, h1, hb1, hk1⟩
  obtain ⟨hB, v, hbk, hown, hne⟩ := h1
  have c0 : w1.cell? ⟨b, 0, none⟩ = some (.pointer (some ⟨b, 0, none⟩)) := by rw [Lib.cell_of_heap hbk]; rfl
  have c1 : w1.cell? ⟨b, 1, none⟩ = some v := by rw [Lib.cell_of_heap hbk]; rfl
  go_wp2_with (at_builtin; refine Lib.wpList_append_own_stringF _ rfl _ _ 22 9 rfl B 5 i0 Try.underlying22 Try.underlying9 hi hz0 hz1 hz2 _ _ _ rfl hown S rfl ?c3 ?c4 ?c5 ?_)
  case c3 => unfold maxLen; omega
  case c4 => omega
  case c5 => have := hb1.size; omega
  intro v' w2 hown' hgrow _
  have hlt : b < w1.heap.size := (Array.getElem?_eq_some_iff.1 hbk).1
  have hb2 : w2.heap[b]? = some (.cells #[.pointer (some ⟨b, 0, none⟩), v] 52 (0, 0)) := by
    rw [hgrow.block b hlt (fun e => hne e.symm)]
    exact hbk
  have d0 : w2.cell? ⟨b, 0, none⟩ = some (.pointer (some ⟨b, 0, none⟩)) := by rw [Lib.cell_of_heap hb2]; rfl
  have d1 : w2.cell? ⟨b, 1, none⟩ = some v := by rw [Lib.cell_of_heap hb2]; rfl
  have f1 : w2.frozen? ⟨b, 1, none⟩ = false := Lib.frozen_of_heap hb2 1
  obtain ⟨ao, n', cap, rfl⟩ : ∃ ao n' cap, v' = .slice ao n' cap := by
    rcases hown'.2 with ⟨hv, _⟩ | ⟨g, cap, cur, fz, hv, _⟩
    · exact ⟨_, _, _, hv⟩
    · exact ⟨_, _, _, hv⟩
  go_wp2_with fail
  go_ret2
  refine ⟨rfl, FIN.out _ ?_ ?_ ((hk1.grown hgrow (Lib.ownsRowF_kind hown)).setCell ⟨b, 1, none⟩ rfl _)⟩
  · exact .inr (Lib.BuilderAtF.put hB hb2 (bs' := bs ++ Lib.strCells S) (by simpa [Lib.strCells_length] using hown') (by decide))
  · exact (hb1.grown hgrow (by have := hb1.size; omega) (fun k hk => (hown.lt k hk).1)).setCell (p := ⟨b, 1, none⟩) hB _
theorem blen_any (B b : Nat) (l : List UInt8) (w : World) (h : Bld w B b l) : Calls Try.prog 63 #[.pointer (some ⟨b, 0, none⟩)] w fun e w' => e = .returned (.int .i64 (l.length : Int)) ∧ w' = w := by
  have := Try.Builder_Len_f B b _ w h
  rwa [bytes_len] at this
theorem btext_any (B b : Nat) (l : List UInt8) (w : World) (h : Bld w B b l) (hBw : B ≤ w.heap.size) : Calls Try.prog 34 #[.pointer (some ⟨b, 0, none⟩)] w fun e w' => e = .returned (.string ⟨l.toArray⟩) ∧ Wrote w w' B b l :=
  (Try.Builder_String_any_k B b l w h hBw).mono fun e w' h => ⟨h.1, h.2.1, h.2.2.1, h.2.2.2⟩
/-- a builder stays one where blocks that hold no cells turn -/
theorem Bld.own {w w' : World} {B b : Nat} {l : List UInt8} {row : Option Nat} (h : Bld w B b l) (hg : w.grownBy w' row) (hr : ∀ r, row = some r → ∃ o : Obj, w.heap[r]? = some o ∧ o.isCells = false) : Bld w' B b l := by
  have key : ∀ p, Lib.BuilderAtF 52 5 B b p (Lib.byteCells l) w → Lib.BuilderAtF 52 5 B b p (Lib.byteCells l) w' := by
    rintro p ⟨hB, v, hb, hown, hne⟩
    refine ⟨hB, v, ?_, hown.kept hg ?_, hne⟩
    · rw [hg.block b (Array.getElem?_eq_some_iff.1 hb).1 (fun e => by obtain ⟨o, ho, hc⟩ := hr b e.symm; rw [hb] at ho; cases ho; cases hc)]; exact hb
    · cases hv : v.ownBlock with
      | none => exact .inl rfl
      | some g =>
        refine .inr fun e => ?_
        obtain ⟨o, ho, hc⟩ := hr g e.symm
        rcases hown.2 with ⟨rfl, _⟩ | ⟨g', cap, cur, fz, rfl, _, hgg, _⟩
        · simp [Value.ownBlock] at hv
        · simp only [Value.ownBlock, Option.some.injEq] at hv
          subst hv
          rw [hgg] at ho; cases ho; cases hc
  exact h.elim (fun h => .inl (key _ h)) (fun h => .inr (key _ h))
theorem Bld.drew {w : World} {B b : Nat} {l : List UInt8} (h : Bld w B b l) : Bld w.drew B b l := h
theorem Bld.grown {w w' : World} {B b : Nat} {l : List UInt8} (h : Bld w B b l) (hb : Below w.heap.size w w') : Bld w' B b l :=
  h.own (row := none) ⟨hb.os, hb.tape, hb.output, hb.size, fun k hk _ => hb.block k hk⟩ (fun r e => by cases e)
theorem Bld.lt {w : World} {B b : Nat} {l : List UInt8} (h : Bld w B b l) : b < w.heap.size ∧ ∃ cs t fr, w.heap[b]? = some (.cells cs t fr) := by
  rcases h with h | h <;> (obtain ⟨_, v, hb, _⟩ := h; exact ⟨(Array.getElem?_eq_some_iff.1 hb).1, _, _, _, hb⟩)
/-- what is no cells stays -/
theorem others_plain {w w' : World} {B b : Nat} {l : List UInt8} (h : Bld w B b l) (hk : Lib.OthersKept 5 (some b) w w') {k : Nat} {o : Obj} (h1 : w.heap[k]? = some o) (h2 : o.isCells = false) : w'.heap[k]? = some o := by
  obtain ⟨_, cs, t, fr, hb⟩ := h.lt
  refine hk k o h1 (fun e => ?_) (fun c fz e => ?_)
  · injection e with e; subst e; rw [hb] at h1; cases h1; cases h2
  · subst e; cases h2
end Go.Proofs.Ytfkkppagbhllgaa

/-
  A LOOP IN A GREAT FRAME: the slots that its body writes are told by ONE function of their numbers. Nothing of the program is named here.
-/
set_option linter.unusedVariables false
set_option linter.unusedSimpArgs false
namespace Go.Proofs.Ytfkkppagbhllgaa
open Go.RowKit

/-! ### A loop in a great frame: the slots that the body writes are told by ONE function of their numbers -/
def inR (rs : List (Nat × Nat)) (n : Nat) : Bool := rs.any fun r => Nat.ble r.1 n && Nat.ble n r.2
/-- The frame l, from slot n on, its slots in the ranges rs told by f. -/
def mix (rs : List (Nat × Nat)) (f : Nat → Value) : Nat → List Value → List Value
  | _, [] => []
  | n, v :: l => cond (inR rs n) (f n) v :: mix rs f (n + 1) l
theorem mix_nil (rs : List (Nat × Nat)) (f : Nat → Value) (n : Nat) : mix rs f n [] = [] := rfl
theorem mix_in {rs : List (Nat × Nat)} {f : Nat → Value} {n : Nat} {v : Value} {l : List Value} (h : inR rs n = true) : mix rs f n (v :: l) = f n :: mix rs f (n + 1) l := by simp [mix, h]
theorem mix_out {rs : List (Nat × Nat)} {f : Nat → Value} {n : Nat} {v : Value} {l : List Value} (h : inR rs n = false) : mix rs f n (v :: l) = v :: mix rs f (n + 1) l := by simp [mix, h]
theorem mix_self (rs : List (Nat × Nat)) (f : Nat → Value) : ∀ (n : Nat) (l : List Value), (∀ i v, l[i]? = some v → f (n + i) = v) → mix rs f n l = l
  | _, [], _ => rfl
  | n, v :: l, h => by
    have h0 : f n = v := h 0 v rfl
    rw [mix, h0, mix_self rs f (n + 1) l (fun i u hu => by rw [show n + 1 + i = n + (i + 1) by omega]; exact h (i + 1) u hu)]
    cases inR rs n <;> rfl
/-- The slots of a frame that is written out. -/
def slotsF (l : List Value) (n : Nat) : Value := l.getD n undef
theorem mix_start (rs : List (Nat × Nat)) (l : List Value) : mix rs (slotsF l) 0 l = l :=
  mix_self rs _ 0 l fun i v hv => by simp [slotsF, List.getD_eq_getElem?_getD, hv]
/-- What a round hands on. -/
def MixEnd (rs : List (Nat × Nat)) (l0 : List Value) (ds : List Deferred) (Rel : (Nat → Value) → World → Prop) (mu : (Nat → Value) → World → Nat) (m : Nat) (a : Act) (w : World) : Prop :=
  ∃ f, a = ⟨(mix rs f 0 l0).toArray, ds⟩ ∧ Rel f w ∧ mu f w < m
theorem MixEnd.intro {rs : List (Nat × Nat)} {l0 : List Value} {ds : List Deferred} {Rel : (Nat → Value) → World → Prop} {mu : (Nat → Value) → World → Nat} {m : Nat} {lit : List Value} {w : World}
    (hlit : lit = mix rs (slotsF lit) 0 l0) (hrel : Rel (slotsF lit) w) (hmu : mu (slotsF lit) w < m) : MixEnd rs l0 ds Rel mu m ⟨lit.toArray, ds⟩ w :=
  ⟨slotsF lit, by rw [← hlit], hrel, hmu⟩
/-- The loop: 'rs' the slots that its body writes, 'Rel' what holds at a round's head, 'mu' what each round lowers. -/
theorem wp_loop_mix {P : Program} {c : Code} {Q : Exit → Act → World → Prop} {l0 : List Value} {ds : List Deferred} {w : World} (rs : List (Nat × Nat)) (Rel : (Nat → Value) → World → Prop) (mu : (Nat → Value) → World → Nat)
    (h0 : Rel (slotsF l0) w)
    (round : ∀ f wr, Rel f wr → ∀ K : Act → World → Prop, (∀ a' w', MixEnd rs l0 ds Rel mu (mu f wr) a' w' → K a' w') → c.wp P (Exit.then K Q) ⟨(mix rs f 0 l0).toArray, ds⟩ wr) :
    (Code.loop c).wp P Q ⟨l0.toArray, ds⟩ w := by
  refine wp_loop_ghost (fun n a w' => ∃ f, a = ⟨(mix rs f 0 l0).toArray, ds⟩ ∧ Rel f w' ∧ mu f w' = n) (mu (slotsF l0) w) ⟨slotsF l0, by rw [mix_start], h0, rfl⟩ ?_
  rintro n a w' ⟨f, rfl, hr, rfl⟩
  exact round f w' hr _ fun a' w'' ⟨f', e, h1, h2⟩ => ⟨mu f' w'', h2, f', e, h1, rfl⟩

end Go.Proofs.Ytfkkppagbhllgaa

/-
  A LOOP WHOSE ROUND HOLDS A RANGE OVER A FUNCTION: its frame is told slot by slot, its marks are told. Nothing of the program is named here.
-/
set_option linter.unusedVariables false
set_option linter.unusedSimpArgs false
namespace Go.Proofs.Ytfkkppagbhllgaa
open Go.RowKit

/-- What a round hands on, the deferred calls with it. -/
def MixEndD (rs : List (Nat × Nat)) (l0 : List Value) (Rel : (Nat → Value) → List Deferred → World → Prop) (mu : (Nat → Value) → Nat) (m : Nat) (a : Act) (w : World) : Prop :=
  ∃ f ds, a = ⟨(mix rs f 0 l0).toArray, ds⟩ ∧ Rel f ds w ∧ mu f < m
theorem MixEndD.intro {rs : List (Nat × Nat)} {l0 : List Value} {ds : List Deferred} {Rel : (Nat → Value) → List Deferred → World → Prop} {mu : (Nat → Value) → Nat} {m : Nat} {lit : List Value} {w : World}
    (hlit : lit = mix rs (slotsF lit) 0 l0) (hrel : Rel (slotsF lit) ds w) (hmu : mu (slotsF lit) < m) : MixEndD rs l0 Rel mu m ⟨lit.toArray, ds⟩ w :=
  ⟨slotsF lit, ds, by rw [← hlit], hrel, hmu⟩
theorem wpIn_loop_mixD {F : Fence} {n : Nat} {P : Program} {c : Code} {Q : Exit → Act → World → Prop} {l0 : List Value} {ds0 : List Deferred} {w : World} (rs : List (Nat × Nat)) (Rel : (Nat → Value) → List Deferred → World → Prop) (mu : (Nat → Value) → Nat)
    (h0 : Rel (slotsF l0) ds0 w)
    (round : ∀ f ds wr, Rel f ds wr → ∀ K : Act → World → Prop, (∀ a' w', MixEndD rs l0 Rel mu (mu f) a' w' → K a' w') → c.wpIn F n P (Exit.then K Q) ⟨(mix rs f 0 l0).toArray, ds⟩ wr) :
    (Code.loop c).wpIn F n P Q ⟨l0.toArray, ds0⟩ w := by
  refine wpIn_loop_ghost (fun m a w' => ∃ f ds, a = ⟨(mix rs f 0 l0).toArray, ds⟩ ∧ Rel f ds w' ∧ mu f = m) (mu (slotsF l0)) ⟨slotsF l0, ds0, by rw [mix_start], h0, rfl⟩ ?_
  rintro m a w' ⟨f, ds, rfl, hr, rfl⟩
  exact round f ds w' hr _ fun a' w'' ⟨f', ds', e, h1, h2⟩ => ⟨mu f', h2, f', ds', e, h1, rfl⟩

/-- the marks of loops that are over: each one's block is empty; the later, the higher -/
def Marks (B : Nat) (w : World) : List Deferred → Prop
  | [] => True
  | d :: ds => ∃ D, d = { target := .collected D, args := #[] } ∧ B ≤ D ∧ w.heap[D]? = some (.deferred (some [])) ∧ (∀ d' ∈ ds, ∃ D', d' = { target := .collected D', args := #[] } ∧ D' < D) ∧ Marks B w ds
theorem Marks.kept {B : Nat} {w w' : World} : ∀ {ds : List Deferred}, Marks B w ds → (∀ D, w.heap[D]? = some (.deferred (some [])) → ({ target := .collected D, args := #[] } : Deferred) ∈ ds → w'.heap[D]? = some (.deferred (some []))) → Marks B w' ds
  | [], _, _ => trivial
  | d :: ds, ⟨D, e, hB, hk, hl, hm⟩, h => ⟨D, e, hB, h D hk (by rw [e]; exact List.mem_cons_self), hl, hm.kept fun D' h' hm' => h D' h' (List.mem_cons_of_mem _ hm')⟩
theorem Marks.lt {B : Nat} {w : World} : ∀ {ds : List Deferred}, Marks B w ds → ∀ d' ∈ ds, ∃ D', d' = { target := .collected D', args := #[] } ∧ D' < w.heap.size
  | [], _, d', h => by simp at h
  | d :: ds, ⟨D, e, hB, hk, hl, hm⟩, d', h => by
    rcases List.mem_cons.1 h with rfl | h
    · exact ⟨D, e, (Array.getElem?_eq_some_iff.1 hk).1⟩
    · exact hm.lt d' h
theorem Marks.below {B D0 : Nat} {w w' : World} {ds : List Deferred} (h : Marks B w ds) (hb : Below D0 w w') (hD : w.heap.size ≤ D0) : Marks B w' ds :=
  h.kept fun D hk _ => by rw [hb.block D (by have := (Array.getElem?_eq_some_iff.1 hk).1; omega)]; exact hk
theorem Marks.setCell {B : Nat} {w : World} {ds : List Deferred} (h : Marks B w ds) (p : Addr) (u v : Value) (hp : w.cell? p = some v) : Marks B (w.setCell p u) ds :=
  h.kept fun D hk _ => by
    by_cases e : D = p.block
    · subst e
      simp [World.cell?, hk] at hp
    · rw [heap_setCell_other _ _ _ _ (fun h => e h)]; exact hk
theorem Marks.drew {B : Nat} {w : World} {ds : List Deferred} (h : Marks B w ds) : Marks B w.drew ds := h.kept fun _ h _ => h

theorem putObj_cell {w : World} {D : Nat} {o o' : Obj} (hk : w.heap[D]? = some o) (ho : o.isCells = false) (p : Addr) (v : Value) (h : w.cell? p = some v) : (w.putObj D o').cell? p = some v := by
  rw [← h]
  refine World.cell?_of_block ?_
  have hne : p.block ≠ D := fun e => by
    subst e
    cases o <;> first | (simp [Obj.isCells] at ho; done) | simp [World.cell?, hk] at h
  exact (grownBy_putObj' w D o').block p.block (World.block_lt_of_cell? w p h) (fun e => hne (by cases e; rfl))

/-- The marks are taken up one by one; nothing that lies below B turns, nor any cell. -/
theorem leaves_marks {F : Fence} {n : Nat} {P : Program} {fn : Func} {tmps : Array Value} {R : Ending → World → Prop} {B : Nat} : ∀ (ds : List Deferred) (w : World), Marks B w ds →
    (∀ w', Below B w w' → (∀ p v, w.cell? p = some v → w'.cell? p = some v) → LeavesInM F n P fn tmps R [] .returning w') → LeavesInM F n P fn tmps R ds .returning w
  | [], w, _, h => h w (Below.refl _ _) fun _ _ h => h
  | d :: ds, w, ⟨D, e, hB, hk, hl, hm⟩, h => by
    subst e
    refine ⟨by simp, .inl ⟨D, _, rfl, run_takeDeferred hk, ?_⟩⟩
    have hg := grownBy_putObj' w D (.deferred none)
    refine leaves_marks ds _ (hm.kept fun D' hk' hm' => ?_) fun w' hb hc => h w' ?_ fun p v hp => hc p v (putObj_cell hk rfl p v hp)
    · obtain ⟨D'', e, hlt⟩ := hl _ hm'
      injection e with e1 _
      injection e1 with e1
      subst e1
      rw [hg.block D' (Array.getElem?_eq_some_iff.1 hk').1 (fun e => by injection e with e; omega)]; exact hk'
    · refine Below.trans ((Below.refl B w).grown hg (Nat.le_trans hB (Nat.le_of_lt (Array.getElem?_eq_some_iff.1 hk).1)) (fun k hk => by cases hk; exact hB)) hb

/-- A store below B, on both sides. -/
theorem below_setCells {B : Nat} {w w' : World} (h : Below B w w') (p : Addr) (u : Value) (hp : p.block < B) : Below B (w.setCell p u) (w'.setCell p u) := by
  refine ⟨h.os, h.tape, h.output, by simpa using h.size, fun k hk => ?_⟩
  have hb := h.block k hk
  simp only [World.setCell, Array.getElem?_modify]
  rw [hb]
theorem wpIn_scope_wide {n : Nat} {P : Program} {c : Code} {Q : Exit → Act → World → Prop} {a : Act} {w : World} (h : c.wpIn Fence.wide n P (Exit.noGoto Q) a w) : (Code.scope c).wpIn Fence.wide n P Q a w :=
  wpIn_wide.2 (wp_scope_straight (wpIn_wide.1 h))
end Go.Proofs.Ytfkkppagbhllgaa

/-
  THE STEPS OF tga's (row).packed and Pack.
-/
set_option linter.unusedVariables false
set_option linter.unusedSimpArgs false
namespace Go.Proofs.Ytfkkppagbhllgaa
open Go.RowKit Go.Shelf

attribute [local go_sem] Oper.semAt_some

theorem pieces_stops (bp z : Nat) (s : List UInt8) (hz : z = 3 ∨ z = 4) (hl : s.length ≤ 1000000) (w : World)
    (c0 : w.cell? ⟨bp, 0, none⟩ = some (.string ⟨s.toArray⟩)) (c1 : w.cell? ⟨bp, 1, none⟩ = some (.int .i64 (z : Int))) (hbp : bp < w.heap.size) :
    SeqStopsK Fence.wide 5 Try.prog 65 #[.pointer (some ⟨bp, 0, none⟩)] (fun t : PcI z s => pcV t.1) (KeepB bp)
      (fun ys => pvals ys = piecesT z s (manyT z s) 0) (fun _ => True) (piecesT z s (manyT z s) 0).length w := fun l J Jx W hW hJ _ hY h0 => by
  have e : ∀ j, W.cell? ⟨bp, j, none⟩ = w.cell? ⟨bp, j, none⟩ := fun j => hW.cell (p := ⟨bp, j, none⟩) hbp
  exact pieces1_in 5 (by omega) l bp z s hz hl J Jx W hJ hY (by rw [e]; exact c0) (by rw [e]; exact c1) (Nat.lt_of_lt_of_le hbp hW.size) h0

theorem pieces_len (z : Nat) (s : List UInt8) : ∀ n f, (piecesT z s n f).length ≤ n
  | 0, _ => by simp [piecesT]
  | n + 1, f => by
    rw [piecesT]
    split
    · have := pieces_len z s n (pendT z s f)
      simp; omega
    · simp
theorem piece_le {z : Nat} {s : List UInt8} (t : PcI z s) (hz : z = 3 ∨ z = 4) : (pieceB z s t.1).length ≤ 513 := by
  obtain ⟨⟨f, u, run⟩, hf, he⟩ := t
  injection he with _ he
  injection he with he1 he2
  simp only at hf he1
  obtain ⟨hb1, hb2, hb3⟩ := pendT_b hf
  unfold pieceB
  dsimp only
  cases run
  · have : (u - f) * z ≤ 128 * 4 := Nat.mul_le_mul (by omega) (by omega)
    simp only [Bool.false_eq_true, if_false, List.length_cons, spanT, List.length_take]
    omega
  · simp only [if_true, List.length_cons, colT, List.length_take]
    omega
theorem flat_le {z : Nat} {s : List UInt8} : ∀ (pre : List (PcI z s)), z = 3 ∨ z = 4 → ((pvals pre).flatMap (pieceB z s)).length ≤ pre.length * 513
  | [], _ => by simp [pvals]
  | t :: pre, hz => by
    have h1 := piece_le t hz
    have h2 := flat_le pre hz
    have e : pvals (t :: pre) = t.1 :: pvals pre := rfl
    rw [e, List.flatMap_cons, List.length_append, List.length_cons]
    omega
/-- packed's memory -/
structure PkAt (w W : World) (z : Nat) (s l : List UInt8) : Prop where
  c0 : W.cell? ⟨w.heap.size, 0, none⟩ = some (.string ⟨s.toArray⟩)
  c1 : W.cell? ⟨w.heap.size, 1, none⟩ = some (.int .i64 (z : Int))
  b : Bld W (w.heap.size + 1) (w.heap.size + 1) l
  r : W.heap[w.heap.size + 1 + 1]? = some (.cells #[.string ⟨s.toArray⟩, .int .i64 (z : Int)] 48 (0, 0))
  below : Below w.heap.size w W
theorem PkAt.own {w W W' : World} {z : Nat} {s l : List UInt8} {row : Option Nat} (h : PkAt w W z s l) (hg : W.grownBy W' row) (hr : ∀ r, row = some r → w.heap.size ≤ r ∧ ∃ o : Obj, W.heap[r]? = some o ∧ o.isCells = false) : PkAt w W' z s l :=
  ⟨cell_kept h.c0 hg (fun r e => (hr r e).2), cell_kept h.c1 hg (fun r e => (hr r e).2), h.b.own hg (fun r e => (hr r e).2),
    by rw [hg.block _ (Array.getElem?_eq_some_iff.1 h.r).1 (fun e => by obtain ⟨o, ho, hc⟩ := (hr _ e.symm).2; rw [h.r] at ho; cases ho; cases hc)]; exact h.r,
    h.below.grown hg h.below.size (fun r e => (hr r e).1)⟩
theorem PkAt.grown {w W W' : World} {z : Nat} {s l : List UInt8} (h : PkAt w W z s l) (hb : Below W.heap.size W W') : PkAt w W' z s l :=
  h.own (row := none) ⟨hb.os, hb.tape, hb.output, hb.size, fun k hk _ => hb.block k hk⟩ (fun r e => by cases e)
theorem PkAt.wrote {w W W' : World} {z : Nat} {s l l' : List UInt8} (h : PkAt w W z s l) (hk : Wrote W W' (w.heap.size + 1) (w.heap.size + 1) l') : PkAt w W' z s l' :=
  ⟨by rw [hk.below.cell (by simp)]; exact h.c0, by rw [hk.below.cell (by simp)]; exact h.c1, hk.is, hk.others _ _ h.r (by simp) (fun c fz e => by injection e with _ e; exact absurd e (by decide)), h.below.trans (hk.below.mono (by omega))⟩
/-- what a step of the body keeps -/
structure Kept3 (w W W' : World) : Prop where
  o : KeepsOthers W W'
  b : KeepB (w.heap.size + 1 + 1) W W'
theorem Kept3.refl (w W : World) : Kept3 w W W := ⟨KeepsOthers.refl _, rfl, Nat.le_refl _⟩
theorem Kept3.trans {w A B C : World} (h : Kept3 w A B) (k : Kept3 w B C) : Kept3 w A C := ⟨h.o.trans k.o, h.b.trans k.b⟩
theorem Kept3.of_below {w W W' : World} {z : Nat} {s l : List UInt8} (h : PkAt w W z s l) (hb : Below W.heap.size W W') : Kept3 w W W' :=
  ⟨⟨hb.size, fun k o hk _ => by rw [hb.block k (Array.getElem?_eq_some_iff.1 hk).1]; exact hk⟩, KeepB.of_below hb (Array.getElem?_eq_some_iff.1 h.r).1⟩
theorem Kept3.of_wrote {w W W' : World} {z : Nat} {s l l' : List UInt8} (h : PkAt w W z s l) (hk : Wrote W W' (w.heap.size + 1) (w.heap.size + 1) l') : Kept3 w W W' :=
  ⟨⟨hk.below.size, fun k o hk1 ho => others_plain h.b hk.others hk1 ho⟩, by rw [KeepB, (h.wrote hk).r, h.r]; exact ⟨rfl, hk.below.size⟩⟩
/-- another variable of two numbers stays -/
theorem pair_wrote {w W W' : World} {l : List UInt8} {g : Nat} {cs : Array Value} (hX : W.heap[g]? = some (.cells cs 82 (0, 0))) (hg : g ≠ w.heap.size + 1) (hk : Wrote W W' (w.heap.size + 1) (w.heap.size + 1) l) : W'.heap[g]? = some (.cells cs 82 (0, 0)) :=
  hk.others _ _ hX (fun e => hg (by injection e)) (fun c fz e => by injection e with _ e; exact absurd e (by decide))

set_option maxRecDepth 100000 in
set_option maxHeartbeats 3200000 in
theorem packed_any (z : Nat) (s : List UInt8) (w : World) (hz : z = 3 ∨ z = 4) (hl : s.length ≤ 1000000) (hm : s.length = manyT z s * z) :
    Calls Try.prog 29 #[rowV z s] w (SR w (packT z s)) := by
  have FIN : Hid (∀ w', Below w.heap.size w w' → SR w (packT z s) (.returned (.string ⟨(packT z s).toArray⟩)) w') := Lib.hid fun w' hb => ⟨rfl, hb⟩
  have HPK : Hid (packT z s = (piecesT z s (manyT z s) 0).flatMap (pieceB z s)) := Lib.hid rfl
  have HLEN : Hid (∀ (pre : List (PcI z s)), pre.length ≤ (piecesT z s (manyT z s) 0).length → ((pvals pre).flatMap (pieceB z s)).length ≤ 1000000000) := Lib.hid fun pre h => by
    have h1 := pieces_len z s (manyT z s) 0
    have h2 : manyT z s ≤ 1000000 := Nat.le_trans (Nat.div_le_self _ _) hl
    have h3 := flat_le pre hz
    omega
  generalize hQ : SR w (packT z s) = Qp at FIN ⊢
  clear hQ
  unfold rowV
  refine (callsIn_wide (n := 6)).1 ?_
  refine callsIn_of_wp_marks Try.func29 rfl trivial ?_ rfl
  simp only [Try.ntmps29, List.size_toArray, List.length_cons, List.length_nil, Nat.reduceAdd, Nat.reduceSub, Array.replicate_succ, Array.replicate_zero, List.push_toArray, List.append_toArray, List.nil_append, List.cons_append]
  have s0 := SlotN.new w [.string ⟨s.toArray⟩, .int .i64 (z : Int)] #[.string ⟨s.toArray⟩, .int .i64 (z : Int)] 48 rfl
  have q0 := s0.c 0 _ rfl
  have q1 := s0.c 1 _ rfl
  gi_wp2
  refine ⟨trivial, (callsIn_wide.2 (pieces_any z s _)).mono ?_⟩
  rintro e w' ⟨rfl, rfl⟩
  obtain ⟨W1, hW1⟩ : ∃ W1, W1 = w.alloc (.cells #[.string ⟨s.toArray⟩, .int .i64 (z : Int)] 48) := ⟨_, rfl⟩
  rw [← hW1] at s0 ⊢
  have z1 : W1.heap.size = w.heap.size + 1 := by rw [hW1]; simp
  have hb1 : Below w.heap.size w W1 := by rw [hW1]; exact (Below.refl _ _).alloc (Nat.le_refl _) _
  have hB := Bld.new W1 (w.heap.size + 1) (w.heap.size + 1) z1.symm (Nat.le_refl _)
  obtain ⟨W2, hW2⟩ : ∃ W2, W2 = W1.alloc (.cells #[.pointer none, .slice none 0 0] 52) := ⟨_, rfl⟩
  rw [← hW2] at hB ⊢
  have z2 : W2.heap.size = w.heap.size + 1 + 1 := by rw [hW2]; simp [z1]
  have hb2 : Below W1.heap.size W1 W2 := by rw [hW2]; exact (Below.refl _ _).alloc (Nat.le_refl _) _
  have s1 := s0.below hb2 (by omega)
  obtain ⟨W0, hW0⟩ : ∃ W0, W0 = W2.alloc (.cells #[.string ⟨s.toArray⟩, .int .i64 (z : Int)] 48) := ⟨_, rfl⟩
  have hr0 : W0.heap[w.heap.size + 1 + 1]? = some (.cells #[.string ⟨s.toArray⟩, .int .i64 (z : Int)] 48 (0, 0)) := by rw [hW0, ← z2]; exact heap_alloc_new W2 _
  have z0 : W0.heap.size = w.heap.size + 1 + 1 + 1 := by rw [hW0]; simp [z2]
  have hb0 : Below W2.heap.size W2 W0 := by rw [hW0]; exact (Below.refl _ _).alloc (Nat.le_refl _) _
  rw [← hW0, z2]
  have s2 := s1.below hb0 (by omega)
  have hP0 : PkAt w W0 z s [] := ⟨s2.c 0 _ rfl, s2.c 1 _ rfl, hB.grown hb0, hr0, hb1.trans ((hb2.mono (by omega)).trans (hb0.mono (by omega)))⟩
  clear hW0 hW1 hW2 s0 s1 s2 q0 q1 hb1 hb2 hb0 hB z1 z2
  have HSEQ := Lib.hid (pieces_stops (w.heap.size + 1 + 1) z s hz hl W0 (by rw [cell_of_row _ _ _ _ _ _ hr0]; rfl) (by rw [cell_of_row _ _ _ _ _ _ hr0]; rfl) (by omega))
  gi_wp2
  refine wpIn_rangeFunc_ownH (F := Fence.wide) rfl (show 1 ≤ 6 by omega) (gf := 65) (lb := #[.pointer (some ⟨w.heap.size + 1 + 1, 0, none⟩)]) rfl trivial (enters_of Try.func65 (by kernel_rfl) rfl)
    HSEQ.out (fun h k => h.trans k) (fun W l o o' hl9 ho hc _ => ⟨by rw [World.putObj_heap_other (by omega)], by simp [World.putObj]⟩) (Below.refl _ _) (fun _ => rfl)
    (fun pre W => PkAt w W z s ((pvals pre).flatMap (pieceB z s)) ∧ W0.heap.size ≤ W.heap.size) (fun _ _ _ => False)
    (fun pre X Y row h hg hr => ⟨h.1.own hg (fun r e => ⟨by have := (hr r e).1; omega, (hr r e).2⟩), Nat.le_trans h.2 hg.size⟩) (fun _ _ _ _ _ h _ _ => h) ⟨hP0, Nat.le_refl _⟩
    (fun t a' W => ∃ Bx, W0.heap.size ≤ Bx ∧ W.heap[Bx]? = some (.cells #[.int .i64 (t.1.1 : Int), .int .i64 (t.1.2.1 : Int)] 82 (0, 0)) ∧ a' = { tmps := #[.agg #[.string ⟨s.toArray⟩, .int .i64 (z : Int)], .pointer (some ⟨w.heap.size, 0, none⟩), .string ⟨#[]⟩, .pointer (some ⟨w.heap.size + 1, 0, none⟩), .pointer (some ⟨Bx, 0, none⟩), .bool t.1.2.2, undef, .agg #[.string ⟨s.toArray⟩, .int .i64 (z : Int)],
      .func (.func 65) #[] #[.pointer (some ⟨w.heap.size + 1 + 1, 0, none⟩)], .agg #[.int .i64 (t.1.1 : Int), .int .i64 (t.1.2.1 : Int)], .bool t.1.2.2, undef, undef, undef, undef, undef, undef, undef, undef, undef, undef, undef, undef, undef, undef, undef, undef, undef, undef, undef, undef, undef, undef, undef, undef, undef, undef, undef, undef, undef, undef, undef, undef, undef, undef], defers := [] })
    (fun t a' _ X Y row hs hg hr => by
      obtain ⟨Bx, h1, h2, h3⟩ := hs
      refine ⟨Bx, h1, ?_, h3⟩
      rw [hg.block Bx (Array.getElem?_eq_some_iff.1 h2).1 (fun e => by obtain ⟨_, o, ho, hc⟩ := hr Bx e.symm; rw [h2] at ho; cases ho; cases hc)]
      exact h2)
    ?assign ?body ?done ?stop
  case assign =>
    rintro l pre t W K' ⟨hI, hsz⟩ hK'
    dsimp only [pcV]
    gi_wp2
    have hbA : Below W.heap.size W (W.alloc (.cells #[.int .i64 (t.1.1 : Int), .int .i64 (t.1.2.1 : Int)] 82)) := (Below.refl _ _).alloc (Nat.le_refl _) _
    exact hK' _ _ ((KeepsOthers.alloc _ _).from _) (KeepB.of_below hbA (by omega)) ⟨hI.grown hbA, Nat.le_trans hsz hbA.size⟩ ⟨W.heap.size, hsz, heap_alloc_new W _, rfl⟩
  case body =>
    rintro l pre t a' W hl9 hr9 ⟨hI, hsz⟩ ⟨Bx, hBx, hX, rfl⟩ hlen
    obtain ⟨⟨f, u, run⟩, hf, he⟩ := t
    simp only at hf he hX
    obtain ⟨hb1, hb2, hb3⟩ := pendT_b hf
    injection he with _ he
    injection he with he1 he2
    rw [← he1] at hb1 hb2 hb3
    have hPB : Hid (∀ h, (pvals (pre ++ [(⟨(f, u, run), h⟩ : PcI z s)])).flatMap (pieceB z s) = (pvals pre).flatMap (pieceB z s) ++ pieceB z s (f, u, run)) := Lib.hid fun h => by rw [pvals_snoc]; simp
    have hL : ((pvals pre).flatMap (pieceB z s)).length ≤ 1000000000 := HLEN.out pre (by omega)
    generalize (pvals pre).flatMap (pieceB z s) = acc at *
    have hmb : manyT z s ≤ 1000000 := Nat.le_trans (Nat.div_le_self _ _) hl
    have x0 : W.cell? ⟨Bx, 0, none⟩ = some (.int .i64 (f : Int)) := by rw [cell_of_row _ _ _ _ _ _ hX]; rfl
    have x1 : W.cell? ⟨Bx, 1, none⟩ = some (.int .i64 (u : Int)) := by rw [cell_of_row _ _ _ _ _ _ hX]; rfl
    have hc9 : (spanT z s f (u - f)).length ≤ 1000 := by
      have : (u - f) * z ≤ 128 * 4 := Nat.mul_le_mul (by omega) (by omega)
      unfold spanT; rw [List.length_take]; omega
    have hc8 : (colT z s f).length ≤ 4 := by unfold colT; rw [List.length_take]; omega
    have hsb := hI.below.size
    have HE1 := Lib.hid he1
    have HE2 := Lib.hid he2
    clear he1 he2
    cases run with
    | true =>
      have hcv : (((UInt8.ofNat (128 + (u - f - 1))).toNat : Nat) : Int) = 128 + ((u : Int) - (f : Int) - 1) := by rw [u8_of _ (by omega)]; omega
      have cv : IntKind.u8.wrap (128 + ((u : Int) - (f : Int) - 1)) = 128 + ((u : Int) - (f : Int) - 1) := by rw [IntKind.wrap_u8]; omega
      have K1 := wbyte_any (w.heap.size + 1) (w.heap.size + 1) acc (UInt8.ofNat (128 + (u - f - 1))) W hI.b (by omega) (by omega)
      rw [hcv] at K1
      have hPE : Hid (pieceB z s (f, u, true) = [UInt8.ofNat (128 + (u - f - 1))] ++ colT z s f) := Lib.hid rfl
      generalize UInt8.ofNat (128 + (u - f - 1)) = c at *
      have HK1 := Lib.hid K1; clear K1 hcv
      gi_wp2
      refine ⟨trivial, (CallsIn.inRound l (callsIn_wide.2 HK1.out)).mono ?_⟩
      clear HK1
      rintro e W1 ⟨rfl, hw1⟩
      have hI1 := hI.wrote hw1
      have hX1 := pair_wrote hX (by omega) hw1
      clear x0 x1
      have x0 : W1.cell? ⟨Bx, 0, none⟩ = some (.int .i64 (f : Int)) := by rw [cell_of_row _ _ _ _ _ _ hX1]; rfl
      have q0 := hI1.c0
      have q1 := hI1.c1
      have HK2 := Lib.hid (at_any z s f W1 hz hl hf)
      unfold rowV at HK2
      have HQ1 := Lib.hid hI1
      have HKP := Lib.hid (Kept3.of_wrote hI hw1)
      have hsz1 : W.heap.size ≤ W1.heap.size := hw1.below.size
      clear hI1
      gi_wp2
      refine ⟨trivial, (CallsIn.inRound l (callsIn_wide.2 HK2.out)).mono ?_⟩
      clear HK2 q0 q1
      rintro e W2 ⟨rfl, hb9⟩
      have HQ2 := Lib.hid (HQ1.out.grown hb9)
      have HKP := Lib.hid (HKP.out.trans (Kept3.of_below HQ1.out hb9))
      have hsz2 : W1.heap.size ≤ W2.heap.size := hb9.size
      have HK3 := Lib.hid (wstr_any (w.heap.size + 1) (w.heap.size + 1) (acc ++ [c]) (colT z s f) W2 HQ2.out.b (by simp; omega) (by omega))
      clear hb9 hw1
      gi_wp2
      refine ⟨trivial, (CallsIn.inRound l (callsIn_wide.2 HK3.out)).mono ?_⟩
      clear HK3
      rintro e W3 ⟨rfl, hw3⟩
      have HQ3 := Lib.hid (HQ2.out.wrote hw3)
      have HKP := Lib.hid (HKP.out.trans (Kept3.of_wrote HQ2.out hw3))
      have hsz3 : W2.heap.size ≤ W3.heap.size := hw3.below.size
      clear hw3
      gi_wp2
      refine ⟨HKP.out.o.from _, HKP.out.b, ?_, by omega⟩
      rw [hPB.out, hPE.out, ← List.append_assoc]
      exact HQ3.out
    | false =>
      have hcv : (((UInt8.ofNat (u - f - 1)).toNat : Nat) : Int) = (u : Int) - (f : Int) - 1 := by rw [u8_of _ (by omega)]; omega
      have cv : IntKind.u8.wrap ((u : Int) - (f : Int) - 1) = (u : Int) - (f : Int) - 1 := by rw [IntKind.wrap_u8]; omega
      have K1 := wbyte_any (w.heap.size + 1) (w.heap.size + 1) acc (UInt8.ofNat (u - f - 1)) W hI.b (by omega) (by omega)
      rw [hcv] at K1
      have hPE : Hid (pieceB z s (f, u, false) = [UInt8.ofNat (u - f - 1)] ++ spanT z s f (u - f)) := Lib.hid rfl
      generalize UInt8.ofNat (u - f - 1) = c at *
      have HK1 := Lib.hid K1; clear K1 hcv
      gi_wp2
      refine ⟨trivial, (CallsIn.inRound l (callsIn_wide.2 HK1.out)).mono ?_⟩
      clear HK1
      rintro e W1 ⟨rfl, hw1⟩
      have hI1 := hI.wrote hw1
      have hX1 := pair_wrote hX (by omega) hw1
      clear x0 x1
      have x0 : W1.cell? ⟨Bx, 0, none⟩ = some (.int .i64 (f : Int)) := by rw [cell_of_row _ _ _ _ _ _ hX1]; rfl
      have x1 : W1.cell? ⟨Bx, 1, none⟩ = some (.int .i64 (u : Int)) := by rw [cell_of_row _ _ _ _ _ _ hX1]; rfl
      have q0 := hI1.c0
      have q1 := hI1.c1
      have huz : u * z ≤ s.length := by rw [hm]; exact Nat.mul_le_mul_right _ hb2
      have hfz : f * z ≤ u * z := Nat.mul_le_mul_right _ (by omega)
      have HS : ∀ W, (Instr.slice 9 (.string ⟨s.toArray⟩) (some (.int .i64 ((f : Int) * (z : Int)))) (some (.int .i64 ((u : Int) * (z : Int)))) none).run Try.prog W = .ok (.string ⟨(spanT z s f (u - f)).toArray⟩) W := fun W => by
        rw [run_sl 9 s _ _ (f * z) (u * z) (by simp) (by simp) hfz huz Try.underlying9 W]
        unfold spanT
        rw [Nat.sub_mul]
      have m0 : (0 : Int) ≤ (f : Int) * (z : Int) := Int.mul_nonneg (by omega) (by omega)
      have m1 : (f : Int) * (z : Int) ≤ 1000000 := by
        have : ((f * z : Nat) : Int) ≤ 1000000 := by omega
        simpa using this
      have m2 : (0 : Int) ≤ (u : Int) * (z : Int) := Int.mul_nonneg (by omega) (by omega)
      have m3 : (u : Int) * (z : Int) ≤ 1000000 := by
        have : ((u * z : Nat) : Int) ≤ 1000000 := by omega
        simpa using this
      have HQ1 := Lib.hid hI1
      have HKP := Lib.hid (Kept3.of_wrote hI hw1)
      have hsz1 : W.heap.size ≤ W1.heap.size := hw1.below.size
      have HK3 := Lib.hid (wstr_any (w.heap.size + 1) (w.heap.size + 1) (acc ++ [c]) (spanT z s f (u - f)) W1 HQ1.out.b (by simp; omega) (by omega))
      clear hI1 hw1 huz hfz
      gi_wp2
      refine ⟨trivial, (CallsIn.inRound l (callsIn_wide.2 HK3.out)).mono ?_⟩
      clear HK3
      rintro e W3 ⟨rfl, hw3⟩
      have HQ3 := Lib.hid (HQ1.out.wrote hw3)
      have HKP := Lib.hid (HKP.out.trans (Kept3.of_wrote HQ1.out hw3))
      have hsz3 : W1.heap.size ≤ W3.heap.size := hw3.below.size
      clear hw3
      gi_wp2
      refine ⟨HKP.out.o.from _, HKP.out.b, ?_, by omega⟩
      rw [hPB.out, hPE.out, ← List.append_assoc]
      exact HQ3.out
  case done =>
    rintro D ys W hD hS ⟨hI, hsz⟩ hKD
    rw [hS, ← HPK.out] at hI
    gi_wp2
    refine ⟨trivial, (callsIn_wide.2 (btext_any _ _ _ W hI.b (by omega))).mono ?_⟩
    rintro e W3 ⟨rfl, hW⟩
    have hKD3 := others_plain hI.b hW.others hKD rfl
    have HB3 := Lib.hid (hI.below.trans (hW.below.mono (by omega)))
    gi_wp2
    show LeavesInM _ _ _ _ _ _ _ _ _
    refine leaves_marks (B := w.heap.size) _ W3 ⟨D, rfl, by omega, hKD3, fun d' h => by simp at h, trivial⟩ fun w' hb' hc => ?_
    exact ⟨.string ⟨(packT z s).toArray⟩, by simp [results, Try.results29, go_sem], FIN.out _ (HB3.out.trans hb')⟩
  case stop => rintro D c' pre W hD hS h; exact h.elim
end Go.Proofs.Ytfkkppagbhllgaa

/-
  THE STEPS OF tga.Pack, must, take.
-/
set_option linter.unusedVariables false
set_option linter.unusedSimpArgs false
set_option maxRecDepth 8000
namespace Go.Proofs.Ytfkkppagbhllgaa
open Go.RowKit

def SE (w : World) (l : List UInt8) (z : Int) (e : Ending) (w' : World) : Prop := e = .returned (.tuple #[.string ⟨l.toArray⟩, .int .i64 z]) ∧ Below w.heap.size w w'
def packOk (s : List UInt8) (size : Int) : Bool := decide ((size = 3 ∨ size = 4) ∧ (s.length : Int) % size = 0)
def packR (s : List UInt8) (size : Int) : List UInt8 × Int := if packOk s size then (packT size.toNat s, 0) else ([], 1)
theorem many_mod {z n : Nat} (h : n % z = 0) : n = n / z * z := by
  have := Nat.div_add_mod n z
  rw [Nat.mul_comm] at this; omega
set_option maxHeartbeats 1600000 in
theorem pack_any (s : List UInt8) (size : Int) (w : World) (hl : s.length ≤ 1000000) (hs : i64b size) :
    Calls Try.prog 16 #[.string ⟨s.toArray⟩, .int .i64 size] w (SE w (packR s size).1 (packR s size).2) := by
  have K := Lib.hid (fun W => colours_any size W)
  by_cases h : size = 3 ∨ size = 4
  · rw [decide_eq_true h] at K
    obtain ⟨z, rfl⟩ : ∃ z : Nat, size = z := ⟨size.toNat, by omega⟩
    have hz : z = 3 ∨ z = 4 := by omega
    have z0 : ((z : Int) == 0) = false := by simp; omega
    have z00 : ¬ ((z : Int) = 0) := by omega
    have z01 : ¬ (z = 0) := by omega
    have tm : (s.length : Int).tmod (z : Int) = ((s.length % z : Nat) : Int) := by rw [Int.tmod_eq_emod_of_nonneg (by omega)]; rfl
    have hb9 : s.length % z ≤ 4 := by have := Nat.mod_lt s.length (show 0 < z by omega); omega
    have wm : IntKind.i64.wrap (((s.length % z : Nat) : Int)) = ((s.length % z : Nat) : Int) := by rw [IntKind.wrap_i64]; omega
    by_cases h0 : s.length % z = 0
    · have e : packR s z = (packT z s, 0) := by
        unfold packR packOk
        rw [decide_eq_true ⟨h, by rw [← Int.natCast_emod, h0]; rfl⟩]; simp
      rw [e]
      have K2 := Lib.hid (fun W => packed_any z s W hz hl (many_mod h0))
      rw [h0] at tm wm
      unfold SR rowV at K2
      unfold SE
      clear e h0 hz h
      go_enter Try.func16, Try.ntmps16
      go_wp2_with fail
      refine (K.out _).mono ?_
      clear K
      rintro e w' ⟨rfl, rfl⟩
      go_wp2_with fail
      refine (K2.out _).mono ?_
      clear K2
      rintro e w' ⟨rfl, hb⟩
      have HB := Lib.hid hb; clear hb
      go_wp2_with fail
      go_ret2
      exact ⟨rfl, HB.out⟩
    · have e : packR s z = ([], 1) := by
        unfold packR packOk
        rw [decide_eq_false (fun hh => h0 (by have := hh.2; rw [← Int.natCast_emod] at this; omega))]; rfl
      rw [e]
      have t1 : (((s.length % z : Nat) : Int) != 0) = true := by simpa using (by omega : ¬ ((s.length % z : Nat) : Int) = 0)
      generalize ((s.length % z : Nat) : Int) = x at *
      unfold SE
      clear e h0 hz h
      go_enter Try.func16, Try.ntmps16
      go_wp2_with fail
      refine (K.out _).mono ?_
      clear K
      rintro e w' ⟨rfl, rfl⟩
      go_wp2_with fail
      go_ret2
      exact ⟨rfl, Below.refl _ _⟩
  · have e : packR s size = ([], 1) := by
      unfold packR packOk
      rw [decide_eq_false (fun hh => h hh.1)]; rfl
    rw [e]
    rw [decide_eq_false h] at K
    unfold SE
    clear e h
    go_enter Try.func16, Try.ntmps16
    go_wp2_with fail
    refine (K.out _).mono ?_
    clear K
    rintro e w' ⟨rfl, rfl⟩
    go_wp2_with fail
    go_ret2
    exact ⟨rfl, Below.refl _ _⟩

/-- an error is thrown -/
def Thrown (z : Int) : Ending := .panicked [{ v := .iface 29 (.int .i64 z), recovered := false }]
theorem must_ok (w : World) : Calls Try.prog 48 #[.bool true] w fun e w' => e = .returned (.tuple #[]) ∧ w' = w := by
  go_enter Try.func48, Try.ntmps48
  go_wp2_with fail
  go_end0
  exact ⟨rfl, rfl⟩
theorem must_bad (w : World) : Calls Try.prog 48 #[.bool false] w fun e w' => e = Thrown 6 ∧ w' = w := by
  unfold Thrown
  go_enter Try.func48, Try.ntmps48
  go_wp2_with fail
  exact ⟨rfl, rfl, rfl⟩
theorem take_ok (g : Nat) (s : List UInt8) (n : Int) (k : Nat) (w : World) (h : SlotN w g [strV s]) (hn : n = (k : Int)) (hk : k ≤ s.length) (hl : s.length ≤ 1000000) :
    Calls Try.prog 47 #[.pointer (some ⟨g, 0, none⟩), .int .i64 n] w fun e w' => e = .returned (strV (s.take k)) ∧ w' = w.setCell ⟨g, 0, none⟩ (strV (s.drop k)) := by
  have c0 := h.c 0 _ rfl
  have f0 := h.f 0
  have K := Lib.hid must_ok
  have t0 : decide (n ≤ (s.length : Int)) = true := decide_eq_true (by omega)
  have H1 := fun W => run_sl_to (P := Try.prog) 9 s n k hn hk Try.underlying9 W
  have H2 := fun W => run_sl_from (P := Try.prog) 9 s n k hn hk Try.underlying9 W
  unfold strV at *
  clear hn hk h
  go_enter Try.func47, Try.ntmps47
  go_wp2_with fail
  refine (K.out _).mono ?_
  clear K
  rintro e w' ⟨rfl, rfl⟩
  go_wp2_with fail
  go_ret
  exact ⟨rfl, rfl⟩
theorem take_bad (g : Nat) (s : List UInt8) (n : Int) (w : World) (h : SlotN w g [strV s]) (hn : (s.length : Int) < n) (hl : s.length ≤ 1000000) :
    Calls Try.prog 47 #[.pointer (some ⟨g, 0, none⟩), .int .i64 n] w fun e w' => e = Thrown 6 ∧ w' = w := by
  have c0 := h.c 0 _ rfl
  have f0 := h.f 0
  have K := Lib.hid must_bad
  have t0 : decide (n ≤ (s.length : Int)) = false := decide_eq_false (by omega)
  unfold strV Thrown at *
  clear hn h
  go_enter Try.func47, Try.ntmps47
  go_wp2_with fail
  refine (K.out _).mono ?_
  clear K
  rintro e w' ⟨rfl, rfl⟩
  go_wp2_with fail
  exact ⟨rfl, rfl, rfl⟩
end Go.Proofs.Ytfkkppagbhllgaa

/-
  THE STEPS OF tga's (reader).unpack.
-/
set_option linter.unusedVariables false
set_option linter.unusedSimpArgs false
set_option maxRecDepth 8000
namespace Go.Proofs.Ytfkkppagbhllgaa
open Go.RowKit

/-- how much a reader has left -/
def leftW (w : World) (g : Nat) : Nat := match w.cell? ⟨g, 0, none⟩ with | some (.string b) => b.size | _ => 0
theorem leftW_is {w : World} {g : Nat} {t : List UInt8} (h : SlotN w g [strV t]) : leftW w g = t.length := by
  unfold leftW; rw [h.c 0 _ rfl]; simp [strV, ByteArray.size]
theorem repeat_eq (l : List UInt8) : ∀ c, Lib.repeatL l c = (List.replicate c l).flatten
  | 0 => rfl
  | c + 1 => by rw [Lib.repeatL, repeat_eq l c, List.replicate_succ, List.flatten_cons]
theorem repeat_any (l : List UInt8) (n : Int) (c : Nat) (w : World) (hn : n = (c : Int)) (hc : c ≤ 1000) (hl : l.length ≤ 1000) :
    Calls Try.prog 64 #[.string ⟨l.toArray⟩, .int .i64 n] w fun e w' => e = .returned (.string ⟨((List.replicate c l).flatten).toArray⟩) ∧ Below w.heap.size w w' := by
  subst hn
  have := Try.strings_Repeat ⟨l.toArray⟩ c w (by omega) (by
    have : l.length * c ≤ 1000 * 1000 := Nat.mul_le_mul hl hc
    simp [ByteArray.size]; omega)
  rw [← repeat_eq]
  exact this
theorem grown_below {w W W' : World} {g : Nat} (h : w.grownBy W (some g)) (hb : Below w.heap.size W W') : w.grownBy W' (some g) :=
  ⟨hb.os.trans h.os, hb.tape.trans h.tape, hb.output.trans h.output, Nat.le_trans h.size hb.size, fun k hk hne => (hb.block k hk).trans (h.block k hk hne)⟩
theorem grown_setCell {w W : World} {g : Nat} (h : w.grownBy W (some g)) (u : Value) : w.grownBy (W.setCell ⟨g, 0, none⟩ u) (some g) :=
  ⟨h.os, h.tape, h.output, by simpa using h.size, fun k hk hne => by rw [Below.heap_setCell _ _ _ _ (fun e => hne (by rw [e]))]; exact h.block k hk hne⟩
theorem SlotN.one {w : World} {g : Nat} {a : Value} (h : SlotN w g [a]) (a' : Value) : SlotN (w.setCell ⟨g, 0, none⟩ a') g [a'] := by
  have h0 := h.c 0 _ rfl
  refine ⟨fun j u hj => ?_, fun j => by rw [World.frozen?_setCell]; exact h.f j⟩
  cases j with
  | zero =>
    simp at hj; subst hj
    rw [World.cell?_setCell_same' _ _ _ (by rw [h0]; rfl)]
  | succ j => simp at hj
/-- a store into a block below another's keeps a builder -/
theorem Bld.store {w : World} {B b g : Nat} {l : List UInt8} (h : Bld w B b l) (hg : g < B) (u : Value) : Bld (w.setCell ⟨g, 0, none⟩ u) B b l := by
  have key : ∀ p, Lib.BuilderAtF 52 5 B b p (Lib.byteCells l) w → Lib.BuilderAtF 52 5 B b p (Lib.byteCells l) (w.setCell ⟨g, 0, none⟩ u) := by
    rintro p ⟨hB, v, hb, hown, hne⟩
    refine ⟨hB, v, ?_, hown.kept (row := some g) ⟨rfl, rfl, rfl, by simp, fun k hk hk2 => Below.heap_setCell _ _ _ _ (fun e => hk2 (by rw [e]))⟩ ?_, hne⟩
    · rw [Below.heap_setCell _ _ _ _ (fun e => by simp only at e; omega)]; exact hb
    · cases hv : v.ownBlock with
      | none => exact .inl rfl
      | some k =>
        refine .inr fun e => ?_
        injection e with e
        have := (hown.lt k hv).1
        omega
  exact h.elim (fun h => .inl (key _ h)) (fun h => .inr (key _ h))

theorem idx_one (c : UInt8) : ∀ W, Sem.run Try.prog (Instr.index 9 (.string ⟨#[c]⟩) (.int .i64 0)) W = .ok (.int .u8 (c.toNat : Int)) W := fun W => by kernel_rfl
/-- unpack's memory -/
structure UnAt (w W : World) (g : Nat) (acc t : List UInt8) : Prop where
  b : Bld W w.heap.size w.heap.size acc
  s : SlotN W g [strV t]
  grown : w.grownBy W (some g)
theorem UnAt.below {w W W' : World} {g : Nat} {acc t : List UInt8} (h : UnAt w W g acc t) (hg : g < w.heap.size) (hb : Below W.heap.size W W') : UnAt w W' g acc t :=
  ⟨h.b.grown hb, h.s.below hb (Nat.lt_of_lt_of_le hg h.grown.size), grown_below h.grown (hb.mono h.grown.size)⟩
theorem UnAt.wrote {w W W' : World} {g : Nat} {acc acc' t : List UInt8} (h : UnAt w W g acc t) (hg : g < w.heap.size) (hk : Wrote W W' w.heap.size w.heap.size acc') : UnAt w W' g acc' t :=
  ⟨hk.is, h.s.below hk.below hg, grown_below h.grown hk.below⟩
theorem UnAt.took {w W : World} {g : Nat} {acc t : List UInt8} (h : UnAt w W g acc t) (hg : g < w.heap.size) (t' : List UInt8) : UnAt w (W.setCell ⟨g, 0, none⟩ (strV t')) g acc t' :=
  ⟨h.b.store hg _, h.s.one _, grown_setCell h.grown _⟩
/-- what unpack hands back -/
def UnRes (g z need : Nat) (s : List UInt8) (w : World) (e : Ending) (w' : World) : Prop :=
  w.grownBy w' (some g) ∧ (∀ o, unpackT z need s = some o → e = .returned (strV o.1) ∧ SlotN w' g [strV o.2]) ∧ (unpackT z need s = none → e = Thrown 6)
/-- where the loop stands -/
def UnSt (z need : Nat) (s : List UInt8) (k : Nat) (t acc : List UInt8) : Prop :=
  (k ≤ need ∧ unpackT z need s = (unpackT z (need - k) t).map fun o => (acc ++ o.1, o.2)) ∨ (need < k ∧ unpackT z need s = none)
theorem UnSt.start (z need : Nat) (s : List UInt8) : UnSt z need s 0 s [] := .inl ⟨by omega, by cases unpackT z need s <;> simp⟩
theorem UnSt.empty {z need k : Nat} {s acc : List UInt8} (h : UnSt z need s k [] acc) (hk : k < need) : unpackT z need s = none := by
  rcases h with ⟨_, h⟩ | ⟨_, h⟩
  · rw [h, unpackT_nil (by omega)]; rfl
  · exact h
theorem UnSt.short {z need k : Nat} {s acc t : List UInt8} {c : UInt8} (h : UnSt z need s k (c :: t) acc) (hk : k < need) (hc : 128 ≤ c.toNat) (hl : t.length < z) : unpackT z need s = none := by
  rcases h with ⟨_, h⟩ | ⟨_, h⟩
  · rw [h, unpackT_cons _ _ _ _ (by omega)]
    by_cases h2 : need - k < c.toNat % 128 + 1
    · rw [if_pos h2]; rfl
    · rw [if_neg h2, if_pos hc, if_pos hl]; rfl
  · exact h
theorem UnSt.short2 {z need k : Nat} {s acc t : List UInt8} {c : UInt8} (h : UnSt z need s k (c :: t) acc) (hk : k < need) (hc : ¬ 128 ≤ c.toNat) (hl : t.length < (c.toNat % 128 + 1) * z) : unpackT z need s = none := by
  rcases h with ⟨_, h⟩ | ⟨_, h⟩
  · rw [h, unpackT_cons _ _ _ _ (by omega)]
    by_cases h2 : need - k < c.toNat % 128 + 1
    · rw [if_pos h2]; rfl
    · rw [if_neg h2, if_neg hc, if_pos hl]; rfl
  · exact h
theorem UnSt.run {z need k : Nat} {s acc t : List UInt8} {c : UInt8} (h : UnSt z need s k (c :: t) acc) (hk : k < need) (hc : 128 ≤ c.toNat) (hl : ¬ t.length < z) :
    UnSt z need s (k + (c.toNat % 128 + 1)) (t.drop z) (acc ++ (List.replicate (c.toNat % 128 + 1) (t.take z)).flatten) := by
  rcases h with ⟨h1, h⟩ | ⟨h1, h⟩
  · rw [unpackT_cons _ _ _ _ (by omega)] at h
    by_cases h2 : need - k < c.toNat % 128 + 1
    · rw [if_pos h2] at h
      exact .inr ⟨by omega, h⟩
    · rw [if_neg h2, if_pos hc, if_neg hl, Option.map_map] at h
      refine .inl ⟨by omega, ?_⟩
      rw [h, Nat.sub_sub]
      congr 1
      funext o
      simp
  · exact .inr ⟨by omega, h⟩
theorem UnSt.lit {z need k : Nat} {s acc t : List UInt8} {c : UInt8} (h : UnSt z need s k (c :: t) acc) (hk : k < need) (hc : ¬ 128 ≤ c.toNat) (hl : ¬ t.length < (c.toNat % 128 + 1) * z) :
    UnSt z need s (k + (c.toNat % 128 + 1)) (t.drop ((c.toNat % 128 + 1) * z)) (acc ++ t.take ((c.toNat % 128 + 1) * z)) := by
  rcases h with ⟨h1, h⟩ | ⟨h1, h⟩
  · rw [unpackT_cons _ _ _ _ (by omega)] at h
    by_cases h2 : need - k < c.toNat % 128 + 1
    · rw [if_pos h2] at h
      exact .inr ⟨by omega, h⟩
    · rw [if_neg h2, if_neg hc, if_neg hl, Option.map_map] at h
      refine .inl ⟨by omega, ?_⟩
      rw [h, Nat.sub_sub]
      congr 1
      funext o
      simp
  · exact .inr ⟨by omega, h⟩
theorem UnSt.done {z need : Nat} {s acc t : List UInt8} (h : UnSt z need s need t acc) : unpackT z need s = some (acc, t) := by
  rcases h with ⟨_, h⟩ | ⟨h1, _⟩
  · rw [h, Nat.sub_self, unpackT_zero]; simp
  · omega
theorem UnSt.over {z need k : Nat} {s acc t : List UInt8} (h : UnSt z need s k t acc) (hk : need < k) : unpackT z need s = none := by
  rcases h with ⟨h1, _⟩ | ⟨_, h⟩
  · omega
  · exact h

set_option maxHeartbeats 1600000 in
theorem unpack_any (g z need : Nat) (s : List UInt8) (w : World) (h : SlotN w g [strV s]) (hg : g < w.heap.size) (hz : z = 3 ∨ z = 4) (hl : s.length ≤ 1000000) (hn : need ≤ 256) :
    Calls Try.prog 44 #[.pointer (some ⟨g, 0, none⟩), .int .i64 (z : Int), .int .i64 (need : Int)] w (UnRes g z need s w) := by
  have FIN1 : Hid (∀ o w', unpackT z need s = some o → w.grownBy w' (some g) → SlotN w' g [strV o.2] → UnRes g z need s w (.returned (.string ⟨o.1.toArray⟩)) w') := Lib.hid fun o w' h1 h2 h3 =>
    ⟨h2, fun o' h' => by rw [h1] at h'; cases h'; exact ⟨rfl, h3⟩, fun h' => by rw [h1] at h'; cases h'⟩
  have FIN2 : Hid (∀ w', unpackT z need s = none → w.grownBy w' (some g) → UnRes g z need s w (Thrown 6) w') := Lib.hid fun w' h1 h2 =>
    ⟨h2, (fun o' h' => by rw [h1] at h'; cases h'), fun _ => rfl⟩
  generalize hQ : UnRes g z need s w = Qp at FIN1 FIN2 ⊢
  clear hQ
  unfold Thrown at *
  have hB := Bld.new w w.heap.size w.heap.size rfl (Nat.le_refl _)
  have hb1 : Below w.heap.size w (w.alloc (.cells #[.pointer none, .slice none 0 0] 52)) := (Below.refl _ _).alloc (Nat.le_refl _) _
  have hU : UnAt w (w.alloc (.cells #[.pointer none, .slice none 0 0] 52)) g [] s := ⟨hB, h.below hb1 hg, ⟨hb1.os, hb1.tape, hb1.output, hb1.size, fun k hk _ => hb1.block k hk⟩⟩
  have HU := Lib.hid hU
  have HST := Lib.hid (UnSt.start z need s)
  clear hU hB hb1 h
  have zn1 : (0 : Int) ≤ (z : Int) * (need : Int) := Int.mul_nonneg (by omega) (by omega)
  have zn2 : (z : Int) * (need : Int) ≤ 1024 := by
    have : z * need ≤ 4 * 256 := Nat.mul_le_mul (by omega) hn
    have : ((z * need : Nat) : Int) ≤ 1024 := by omega
    simpa using this
  have ZN : Hid (((z * need : Nat) : Int) = (z : Int) * (need : Int)) := Lib.hid (by simp)
  obtain ⟨hz3, hz4⟩ : 3 ≤ z ∧ z ≤ 4 := by omega
  clear hz
  generalize hX : (z : Int) * (need : Int) = ZX at *
  have HZX := Lib.hid hX
  go_enter Try.func44, Try.ntmps44
  go_wp2_with fail
  generalize w.alloc (.cells #[.pointer none, .slice none 0 0] 52) = V0 at *
  go_loopw [] (fun wr => ∃ (k : Nat) (acc t : List UInt8), Hid (UnAt w wr g acc t) ∧ Hid (UnSt z need s k t acc) ∧ acc.length = k * z ∧ t.length ≤ 1000000 ∧ k ≤ 400) (fun wr => leftW wr g)
  case atStart => exact ⟨0, [], s, HU, HST, by simp, hl, by omega⟩
  case round =>
    clear HU HST
    obtain ⟨k, acc, t, HU, HST, hak, htl, hk4⟩ := hrel
    have hsz : w.heap.size ≤ wr.heap.size := HU.out.grown.size
    have KL := Lib.hid (blen_any w.heap.size w.heap.size acc wr HU.out.b)
    have hkz : k * z ≤ 1600 := by
      have : k * z ≤ 400 * 4 := Nat.mul_le_mul hk4 hz4
      omega
    by_cases hlt : k < need
    · have h9 : k * z < z * need := by rw [Nat.mul_comm z need]; exact Nat.mul_lt_mul_of_pos_right hlt (by omega)
      have t0 : decide ((acc.length : Int) < ZX) = true := decide_eq_true (by rw [← ZN.out, hak]; omega)
      have HAK := Lib.hid hak; clear hak h9
      have hal : acc.length ≤ 1600 := by rw [HAK.out]; exact hkz
      cases t with
      | nil =>
        have KT := Lib.hid (take_bad g [] 1 wr HU.out.s (by simp) (by simp))
        have HN := Lib.hid (HST.out.empty hlt)
        have HGR := Lib.hid HU.out.grown
        unfold Thrown at KT
        go_wp2_with fail
        refine KL.out.mono ?_
        clear KL
        rintro e w' ⟨rfl, rfl⟩
        go_wp2_with fail
        refine KT.out.mono ?_
        clear KT
        rintro e w' ⟨rfl, rfl⟩
        go_wp2_with fail
        exact ⟨rfl, FIN2.out _ HN.out HGR.out⟩
      | cons c t =>
        have KT := Lib.hid (take_ok g (c :: t) 1 1 wr HU.out.s rfl (by simp) htl)
        have hU1 := HU.out.took hg t
        have HU1 := Lib.hid hU1; clear hU1
        have hml : Hid (leftW wr g = t.length + 1) := Lib.hid (by rw [leftW_is HU.out.s]; rfl)
        unfold strV at KT
        simp only [List.take_succ_cons, List.take_zero, List.drop_succ_cons, List.drop_zero] at KT
        unfold strV at HU1
        generalize hV : wr.setCell ⟨g, 0, none⟩ (.string ⟨t.toArray⟩) = V1 at *
        clear hV
        clear HU
        have htl' : t.length ≤ 1000000 := by simp at htl; omega
        clear htl
        have hc256 := c.toNat_lt
        have HI := idx_one c
        obtain ⟨cn, hcn⟩ : ∃ cn : Nat, c.toNat = cn := ⟨_, rfl⟩
        have hcb : cn ≤ 255 := by omega
        have tm : (cn : Int).tmod 128 = ((cn % 128 : Nat) : Int) := rfl
        obtain ⟨q, hq⟩ : ∃ q, q = c.toNat % 128 := ⟨_, rfl⟩
        rw [hcn] at HI
        rw [← hcn, ← hq, hcn] at tm
        have hq2 : q ≤ 127 := by omega
        clear hc256
        have HQ := Lib.hid hq; clear hq
        have hsz1 : w.heap.size ≤ V1.heap.size := HU1.out.grown.size
        by_cases hc : 128 ≤ c.toNat
        · have t1 : decide (128 ≤ (cn : Int)) = true := decide_eq_true (by omega)
          by_cases hl9 : t.length < z
          · have HN := Lib.hid (HST.out.short hlt hc hl9)
            have KT2 := Lib.hid (take_bad g t z V1 HU1.out.s (by omega) htl')
            unfold Thrown at KT2
            have HGR := Lib.hid HU1.out.grown
            clear hl9 hc hcn
            go_wp2_with fail
            refine KL.out.mono ?_
            clear KL
            rintro e w' ⟨rfl, rfl⟩
            go_wp2_with fail
            refine KT.out.mono ?_
            clear KT
            rintro e w' ⟨rfl, rfl⟩
            go_wp2_with fail
            refine KT2.out.mono ?_
            clear KT2
            rintro e w' ⟨rfl, rfl⟩
            go_wp2_with fail
            exact ⟨rfl, FIN2.out _ HN.out HGR.out⟩
          · have HST2 := Lib.hid (HST.out.run hlt hc hl9)
            rw [← HQ.out] at HST2
            have KT2 := Lib.hid (take_ok g t z z V1 HU1.out.s rfl (by omega) htl')
            have HU2 := Lib.hid (HU1.out.took hg (t.drop z))
            unfold strV at KT2 HU2
            generalize hV : V1.setCell ⟨g, 0, none⟩ (.string ⟨(t.drop z).toArray⟩) = V2 at *
            clear hV
            have hsz2 : w.heap.size ≤ V2.heap.size := HU2.out.grown.size
            have ht9 : (t.take z).length = z := by rw [List.length_take]; omega
            have KR := Lib.hid (repeat_any (t.take z) ((q : Int) + 1) (q + 1) V2 (by omega) (by omega) (by omega))
            have hrl : ((List.replicate (q + 1) (t.take z)).flatten).length = (q + 1) * z := by simp [ht9]
            have hqz : (q + 1) * z ≤ 512 := by
              have : (q + 1) * z ≤ 128 * 4 := Nat.mul_le_mul (by omega) hz4
              omega
            have HRL := Lib.hid hrl
            have HDL : Hid ((t.drop z).length < t.length + 1) := Lib.hid (by rw [List.length_drop]; omega)
            have htl2 : (t.drop z).length ≤ 1000000 := by rw [List.length_drop]; omega
            generalize List.replicate (q + 1) (t.take z) = RP at *
            generalize t.drop z = t2 at *
            generalize t.take z = t1' at *
            clear hl9 hc hcn hrl ht9
            go_wp2_with fail
            refine KL.out.mono ?_
            clear KL
            rintro e w' ⟨rfl, rfl⟩
            go_wp2_with fail
            refine KT.out.mono ?_
            clear KT
            rintro e w' ⟨rfl, rfl⟩
            go_wp2_with fail
            refine KT2.out.mono ?_
            clear KT2
            rintro e w' ⟨rfl, rfl⟩
            go_wp2_with fail
            refine KR.out.mono ?_
            clear KR
            rintro e V3 ⟨rfl, hb3⟩
            have HU3 := Lib.hid (HU2.out.below hg hb3)
            have hsz3 : w.heap.size ≤ V3.heap.size := HU3.out.grown.size
            have KW := Lib.hid (wstr_any w.heap.size w.heap.size acc RP.flatten V3 HU3.out.b (by rw [HRL.out]; omega) hsz3)
            clear hb3
            go_wp2_with fail
            refine KW.out.mono ?_
            clear KW
            rintro e V4 ⟨rfl, hw⟩
            have HU4 := Lib.hid (HU3.out.wrote hg hw)
            clear hw
            go_wp2_with fail
            go_roundw
            case rel => exact ⟨k + (q + 1), _, _, HU4, HST2, by rw [List.length_append, HRL.out, HAK.out, Nat.add_mul k], htl2, by omega⟩
            case measure => rw [leftW_is HU4.out.s, hml.out]; exact HDL.out
        · have t1 : decide (128 ≤ (cn : Int)) = false := decide_eq_false (by omega)
          have mz : ((z * (q + 1) : Nat) : Int) = (z : Int) * ((q : Int) + 1) := by simp
          have hqz : (q + 1) * z ≤ 512 := by
            have : (q + 1) * z ≤ 128 * 4 := Nat.mul_le_mul (by omega) hz4
            omega
          have hcz : z * (q + 1) = (q + 1) * z := Nat.mul_comm _ _
          have mz0 : (0 : Int) ≤ (z : Int) * ((q : Int) + 1) := by omega
          have mz1 : (z : Int) * ((q : Int) + 1) ≤ 512 := by omega
          by_cases hl9 : t.length < (q + 1) * z
          · have HN := Lib.hid (HST.out.short2 hlt hc (by rw [← HQ.out]; exact hl9))
            have KT2 := Lib.hid (take_bad g t ((z : Int) * ((q : Int) + 1)) V1 HU1.out.s (by omega) htl')
            unfold Thrown at KT2
            have HGR := Lib.hid HU1.out.grown
            clear hl9 hc hcn mz hcz hqz
            go_wp2_with fail
            refine KL.out.mono ?_
            clear KL
            rintro e w' ⟨rfl, rfl⟩
            go_wp2_with fail
            refine KT.out.mono ?_
            clear KT
            rintro e w' ⟨rfl, rfl⟩
            go_wp2_with fail
            refine KT2.out.mono ?_
            clear KT2
            rintro e w' ⟨rfl, rfl⟩
            go_wp2_with fail
            exact ⟨rfl, FIN2.out _ HN.out HGR.out⟩
          · have HST2 := Lib.hid (HST.out.lit hlt hc (by rw [← HQ.out]; exact hl9))
            rw [← HQ.out] at HST2
            have KT2 := Lib.hid (take_ok g t ((z : Int) * ((q : Int) + 1)) ((q + 1) * z) V1 HU1.out.s (by omega) (by omega) htl')
            have HU2 := Lib.hid (HU1.out.took hg (t.drop ((q + 1) * z)))
            unfold strV at KT2 HU2
            have HRL : Hid ((t.take ((q + 1) * z)).length = (q + 1) * z) := Lib.hid (by rw [List.length_take]; omega)
            have HDL : Hid ((t.drop ((q + 1) * z)).length < t.length + 1) := Lib.hid (by rw [List.length_drop]; omega)
            have htl2 : (t.drop ((q + 1) * z)).length ≤ 1000000 := by rw [List.length_drop]; omega
            generalize hV : V1.setCell ⟨g, 0, none⟩ (.string ⟨(t.drop ((q + 1) * z)).toArray⟩) = V2 at *
            clear hV
            have hsz2 : w.heap.size ≤ V2.heap.size := HU2.out.grown.size
            generalize t.drop ((q + 1) * z) = t2 at *
            generalize t.take ((q + 1) * z) = t1' at *
            clear hl9 hc hcn mz hcz
            go_wp2_with fail
            refine KL.out.mono ?_
            clear KL
            rintro e w' ⟨rfl, rfl⟩
            go_wp2_with fail
            refine KT.out.mono ?_
            clear KT
            rintro e w' ⟨rfl, rfl⟩
            go_wp2_with fail
            refine KT2.out.mono ?_
            clear KT2
            rintro e w' ⟨rfl, rfl⟩
            have HU3 := HU2
            have KW := Lib.hid (wstr_any w.heap.size w.heap.size acc t1' _ HU2.out.b (by rw [HRL.out]; omega) hsz2)
            go_wp2_with fail
            refine KW.out.mono ?_
            clear KW
            rintro e V4 ⟨rfl, hw⟩
            have HU4 := Lib.hid (HU3.out.wrote hg hw)
            clear hw
            go_wp2_with fail
            go_roundw
            case rel => exact ⟨k + (q + 1), _, _, HU4, HST2, by rw [List.length_append, HRL.out, HAK.out, Nat.add_mul k], htl2, by omega⟩
            case measure => rw [leftW_is HU4.out.s, hml.out]; exact HDL.out
    · have h9 : ¬ k * z < z * need := by rw [Nat.mul_comm z need]; have := Nat.mul_le_mul_right z (Nat.le_of_not_lt hlt); omega
      have t0 : decide ((acc.length : Int) < ZX) = false := decide_eq_false (by rw [← ZN.out, hak]; omega)
      have HGR := Lib.hid HU.out.grown
      by_cases hke : k = need
      · have HN := Lib.hid (UnSt.done (hke ▸ HST.out))
        have t1 : ((acc.length : Int) == ZX) = true := by rw [← ZN.out, hak, hke, Nat.mul_comm]; simp
        have KT := Lib.hid (btext_any w.heap.size w.heap.size acc wr HU.out.b hsz)
        have KM := Lib.hid must_ok
        clear hak h9 hke hlt
        go_wp2_with fail
        refine KL.out.mono ?_
        rintro e w' ⟨rfl, rfl⟩
        go_wp2_with fail
        refine KL.out.mono ?_
        clear KL
        rintro e w' ⟨rfl, rfl⟩
        go_wp2_with fail
        refine (KM.out _).mono ?_
        clear KM
        rintro e w' ⟨rfl, rfl⟩
        go_wp2_with fail
        refine KT.out.mono ?_
        clear KT
        rintro e w3 ⟨rfl, hw⟩
        have HF := Lib.hid (HU.out.wrote hg hw)
        clear hw
        go_wp2_with fail
        exact FIN1.out _ _ HN.out HF.out.grown HF.out.s
      · have HN := Lib.hid (HST.out.over (by omega))
        have t1 : ((acc.length : Int) == ZX) = false := by
          have : z * need < k * z := by rw [Nat.mul_comm z need]; exact Nat.mul_lt_mul_of_pos_right (by omega) (by omega)
          rw [← ZN.out, hak]; simp; omega
        have KM := Lib.hid must_bad
        unfold Thrown at KM
        clear hak h9 hke hlt
        go_wp2_with fail
        refine KL.out.mono ?_
        rintro e w' ⟨rfl, rfl⟩
        go_wp2_with fail
        refine KL.out.mono ?_
        clear KL
        rintro e w' ⟨rfl, rfl⟩
        go_wp2_with fail
        refine (KM.out _).mono ?_
        clear KM
        rintro e w' ⟨rfl, rfl⟩
        go_wp2_with fail
        exact ⟨rfl, FIN2.out _ HN.out HGR.out⟩
end Go.Proofs.Ytfkkppagbhllgaa

/-
  THE STEPS OF tga.caught, Unpack.
-/
set_option linter.unusedVariables false
set_option linter.unusedSimpArgs false
set_option maxRecDepth 8000
namespace Go.Proofs.Ytfkkppagbhllgaa
open Go.RowKit

theorem clearU (g g2 : Nat) (a b : Value) (w : World) (h : SlotN w g [a]) (h2 : SlotN w g2 [b]) (hne : g ≠ g2) : Calls Try.prog 43 #[.pointer (some ⟨g, 0, none⟩), .pointer (some ⟨g2, 0, none⟩)] w fun e w' =>
    e = .returned (.tuple #[]) ∧ w' = (w.setCell ⟨g, 0, none⟩ (.string ⟨#[]⟩)).setCell ⟨g2, 0, none⟩ (.int .i64 0) := by
  have d0 := h.c 0 _ rfl
  have f0 := h.f 0
  have d1 : (w.setCell ⟨g, 0, none⟩ (.string ⟨#[]⟩)).cell? ⟨g2, 0, none⟩ = some b := by rw [World.cell?_setCell_other _ _ _ _ (fun e => hne (by injection e))]; exact h2.c 0 _ rfl
  have f1 : (w.setCell ⟨g, 0, none⟩ (.string ⟨#[]⟩)).frozen? ⟨g2, 0, none⟩ = false := by rw [World.frozen?_setCell]; exact h2.f 0
  clear hne h h2
  go_enter Try.func43, Try.ntmps43
  go_wp2_with fail
  go_end0
  exact ⟨rfl, rfl⟩
theorem assert_nil (W : World) : (Instr.typeAssert .nilIface 20 29 true).run Try.prog W = .ok (.tuple #[.int .i64 0, .bool false]) W := by kernel_rfl
theorem assert_err (z : Int) (W : World) : (Instr.typeAssert (.iface 29 (.int .i64 z)) 20 29 true).run Try.prog W = .ok (.tuple #[.int .i64 z, .bool true]) W := by kernel_rfl
theorem makes_func : ∀ (fn : Fn) (first cap : Array Value) (w : World), (Instr.makeFunc fn first cap).run Try.prog w = .ok (.func fn first cap) w := fun _ _ _ _ => rfl
theorem caught_idle (p : Value) (q : Value) (w : World) : CallsD Try.prog 42 #[p, q] .returning w fun e u' w' => e = .returned (.tuple #[]) ∧ u' = .returning ∧ w' = w := by
  refine callsD_of_wpS Try.func42 rfl fun c₀ cs hu => ?_
  simp only [Try.ntmps42, List.size_toArray, List.length_cons, List.length_nil, Nat.reduceAdd, Nat.reduceSub, Array.replicate_succ, Array.replicate_zero, List.push_toArray, List.append_toArray, List.nil_append, List.cons_append]
  apply wpS_seq
  apply wpS_region
  have ha := assert_nil
  have hb := assert_err
  simp [wpOpsS, go_sem, recoverD, hu, ha, hb, Try.ntmps42, Exit.thenS]
  refine wpS_of_wp ?_
  go_wp2_with fail
  cases c₀
  simp_all [bodyPostS, results, Try.results42]
theorem caught_u (g g1 g2 : Nat) (z : Int) (older : List PanicEntry) (w w1 : World) (x : Value) (hx : w.cell? ⟨g, 0, none⟩ = some x) (hf : w.frozen? ⟨g, 0, none⟩ = false)
    (hC : Calls Try.prog 43 #[.pointer (some ⟨g1, 0, none⟩), .pointer (some ⟨g2, 0, none⟩)] (w.setCell ⟨g, 0, none⟩ (.int .i64 z)) fun e w' => e = .returned (.tuple #[]) ∧ w' = w1) :
    CallsD Try.prog 42 #[.pointer (some ⟨g, 0, none⟩), .func (.func 43) #[] #[.pointer (some ⟨g1, 0, none⟩), .pointer (some ⟨g2, 0, none⟩)]] (.panicking ({ v := .iface 29 (.int .i64 z), recovered := false } :: older)) w fun e u' w' => e = .returned (.tuple #[]) ∧ u' = .panicking ({ v := .iface 29 (.int .i64 z), recovered := true } :: older) ∧ w' = w1 := by
  refine callsD_of_wpS Try.func42 rfl fun c₀ cs hu => ?_
  simp only [Try.ntmps42, List.size_toArray, List.length_cons, List.length_nil, Nat.reduceAdd, Nat.reduceSub, Array.replicate_succ, Array.replicate_zero, List.push_toArray, List.append_toArray, List.nil_append, List.cons_append]
  apply wpS_seq
  apply wpS_region
  have ha := assert_nil
  have hb := assert_err
  simp [wpOpsS, go_sem, recoverD, hu, ha, hb, Try.ntmps42, Exit.thenS]
  clear ha hb
  have HU := Lib.hid hu; clear hu
  refine wpS_of_wp ?_
  go_wp2_with fail
  refine hC.mono ?_
  clear hC
  rintro e w2 ⟨rfl, rfl⟩
  go_wp2_with fail
  have hu := HU.out
  cases c₀
  simp_all [bodyPostS, results, Try.results42]

def unOk (size many : Int) : Bool := decide ((size = 3 ∨ size = 4) ∧ 0 ≤ many ∧ many ≤ 256)
def unR (s : List UInt8) (size many : Int) : List UInt8 × Int × Int :=
  if unOk size many then match unpackT size.toNat many.toNat s with
    | some o => (o.1, (s.length : Int) - (o.2.length : Int), 0)
    | none => ([], 0, 6)
  else ([], 0, 1)
def UnpRes (r : List UInt8 × Int × Int) (w : World) (e : Ending) (w' : World) : Prop := e = .returned (.tuple #[strV r.1, .int .i64 r.2.1, .int .i64 r.2.2]) ∧ Below w.heap.size w w'
/-- Unpack's variables -/
structure UnVars (w W : World) (l : List UInt8) (n e : Int) : Prop where
  a : SlotN W w.heap.size [strV l]
  b : SlotN W (w.heap.size + 1) [.int .i64 n]
  c : SlotN W (w.heap.size + 1 + 1) [.int .i64 e]
  below : Below w.heap.size w W
  size : w.heap.size + 3 ≤ W.heap.size
theorem UnVars.new (w : World) (t1 t2 t3 : TypeId) : UnVars w (((w.alloc (.cells #[.string ⟨#[]⟩] t1)).alloc (.cells #[.int .i64 0] t2)).alloc (.cells #[.int .i64 0] t3)) [] 0 0 := by
  have s1 := SlotN.new w [strV []] #[.string ⟨#[]⟩] t1 rfl
  have s2 := SlotN.new (w.alloc (.cells #[.string ⟨#[]⟩] t1)) [.int .i64 0] #[.int .i64 0] t2 rfl
  have s3 := SlotN.new ((w.alloc (.cells #[.string ⟨#[]⟩] t1)).alloc (.cells #[.int .i64 0] t2)) [.int .i64 0] #[.int .i64 0] t3 rfl
  have b1 : Below (w.heap.size + 1) (w.alloc (.cells #[.string ⟨#[]⟩] t1)) ((w.alloc (.cells #[.string ⟨#[]⟩] t1)).alloc (.cells #[.int .i64 0] t2)) := (Below.refl _ _).alloc (by simp) _
  have b2 : Below (w.heap.size + 1 + 1) ((w.alloc (.cells #[.string ⟨#[]⟩] t1)).alloc (.cells #[.int .i64 0] t2)) (((w.alloc (.cells #[.string ⟨#[]⟩] t1)).alloc (.cells #[.int .i64 0] t2)).alloc (.cells #[.int .i64 0] t3)) := (Below.refl _ _).alloc (by simp) _
  simp only [World.size_alloc] at s2 s3
  exact ⟨(s1.below b1 (by omega)).below b2 (by omega), s2.below b2 (by omega), s3, (((Below.refl _ _).alloc (Nat.le_refl _) _).alloc (by simp) _).alloc (by simp; omega) _, by simp⟩
theorem UnVars.below' {w W W' : World} {l : List UInt8} {n e : Int} (h : UnVars w W l n e) {g : Nat} (hg : w.heap.size + 3 ≤ g) (hb : W.grownBy W' (some g)) : UnVars w W' l n e := by
  have hz := h.size
  have k : ∀ k, k < w.heap.size + 3 → W'.heap[k]? = W.heap[k]? := fun k hk => hb.block k (by omega) (fun e => by injection e with e; omega)
  have kc : ∀ k j, k < w.heap.size + 3 → W'.cell? ⟨k, j, none⟩ = W.cell? ⟨k, j, none⟩ := fun k' j hk => by simp [World.cell?, k k' hk]
  have kf : ∀ k j, k < w.heap.size + 3 → W'.frozen? ⟨k, j, none⟩ = W.frozen? ⟨k, j, none⟩ := fun k' j hk => by simp [World.frozen?, k k' hk]
  exact ⟨⟨fun j u hj => by rw [kc _ _ (by omega)]; exact h.a.c j u hj, fun j => by rw [kf _ _ (by omega)]; exact h.a.f j⟩, ⟨fun j u hj => by rw [kc _ _ (by omega)]; exact h.b.c j u hj, fun j => by rw [kf _ _ (by omega)]; exact h.b.f j⟩, ⟨fun j u hj => by rw [kc _ _ (by omega)]; exact h.c.c j u hj, fun j => by rw [kf _ _ (by omega)]; exact h.c.f j⟩,
    h.below.grown hb h.below.size (fun r e => by injection e with e; omega), Nat.le_trans hz hb.size⟩

theorem SlotN.other {w : World} {g : Nat} {l : List Value} (h : SlotN w g l) (g2 : Nat) (hne : g2 ≠ g) (u : Value) : SlotN (w.setCell ⟨g2, 0, none⟩ u) g l :=
  ⟨fun j x hj => by rw [World.cell?_setCell_other _ _ _ _ (by intro e; have := congrArg Addr.block e; simp at this; omega)]; exact h.c j x hj, fun j => by rw [World.frozen?_setCell]; exact h.f j⟩
theorem UnVars.store_a {w W : World} {l : List UInt8} {n e : Int} (h : UnVars w W l n e) (l' : List UInt8) : UnVars w (W.setCell ⟨w.heap.size, 0, none⟩ (strV l')) l' n e :=
  ⟨h.a.one _, h.b.other _ (by omega) _, h.c.other _ (by omega) _, h.below.setCell (p := ⟨w.heap.size, 0, none⟩) (Nat.le_refl _) _, by simpa using h.size⟩
theorem UnVars.store_b {w W : World} {l : List UInt8} {n e : Int} (h : UnVars w W l n e) (n' : Int) : UnVars w (W.setCell ⟨w.heap.size + 1, 0, none⟩ (.int .i64 n')) l n' e :=
  ⟨h.a.other _ (by omega) _, h.b.one _, h.c.other _ (by omega) _, h.below.setCell (p := ⟨w.heap.size + 1, 0, none⟩) (by simp) _, by simpa using h.size⟩
theorem UnVars.store_e {w W : World} {l : List UInt8} {n e : Int} (h : UnVars w W l n e) (e' : Int) : UnVars w (W.setCell ⟨w.heap.size + 1 + 1, 0, none⟩ (.int .i64 e')) l n e' :=
  ⟨h.a.other _ (by omega) _, h.b.other _ (by omega) _, h.c.one _, h.below.setCell (p := ⟨w.heap.size + 1 + 1, 0, none⟩) (by simp; omega) _, by simpa using h.size⟩
theorem unpack_rest {z : Nat} : ∀ (need : Nat) (s : List UInt8) (o : List UInt8 × List UInt8), unpackT z need s = some o → o.2.length ≤ s.length
  | need, s, o, h => by
    by_cases h0 : need = 0
    · subst h0
      rw [unpackT_zero] at h
      cases h; simp
    · cases s with
      | nil => rw [unpackT_nil h0] at h; cases h
      | cons c t =>
        rw [unpackT_cons _ _ _ _ h0] at h
        split at h
        · cases h
        · rename_i h1
          split at h
          · split at h
            · cases h
            · cases hu : unpackT z (need - (c.toNat % 128 + 1)) (t.drop z) with
              | none => rw [hu] at h; cases h
              | some q =>
                rw [hu] at h
                simp only [Option.map_some, Option.some.injEq] at h
                subst h
                have ih := unpack_rest _ _ _ hu
                rw [List.length_drop] at ih
                simp only [List.length_cons]; omega
          · split at h
            · cases h
            · cases hu : unpackT z (need - (c.toNat % 128 + 1)) (t.drop ((c.toNat % 128 + 1) * z)) with
              | none => rw [hu] at h; cases h
              | some q =>
                rw [hu] at h
                simp only [Option.map_some, Option.some.injEq] at h
                subst h
                have ih := unpack_rest _ _ _ hu
                rw [List.length_drop] at ih
                simp only [List.length_cons]; omega
termination_by need => need
theorem set3_cells (w W : World) {l : List UInt8} {n e : Int} (h : UnVars w W l n e) (l' : List UInt8) (n' e' : Int) :
    UnVars w (((W.setCell ⟨w.heap.size, 0, none⟩ (strV l')).setCell ⟨w.heap.size + 1, 0, none⟩ (.int .i64 n')).setCell ⟨w.heap.size + 1 + 1, 0, none⟩ (.int .i64 e')) l' n' e' := ((h.store_a l').store_b n').store_e e'

set_option maxHeartbeats 800000 in
theorem unp_no (s : List UInt8) (size many : Int) (w : World) (h : unOk size many = false) : Calls Try.prog 18 #[.string ⟨s.toArray⟩, .int .i64 size, .int .i64 many] w (UnpRes ([], 0, 1) w) := by
  have K := Lib.hid (fun W => colours_any size W)
  unfold UnpRes
  have hv := UnVars.new w 9 3 29
  have d0 := hv.a.c 0 _ rfl
  have d1 := hv.b.c 0 _ rfl
  have d2 := hv.c.c 0 _ rfl
  have f0 := hv.a.f 0
  have f1 := hv.b.f 0
  have f2 := hv.c.f 0
  have hv9 := set3_cells w _ hv [] 0 1
  have HV := Lib.hid hv9
  unfold strV at *
  clear hv hv9
  go_enter_defers Try.func18, Try.ntmps18
  go_wp2_with fail
  generalize ((w.alloc (.cells #[.string ⟨#[]⟩] 9)).alloc (.cells #[.int .i64 0] 3)).alloc (.cells #[.int .i64 0] 29) = W0 at *
  refine (K.out _).mono ?_
  clear K
  rintro e w' ⟨rfl, rfl⟩
  unfold unOk at h
  rw [decide_eq_false_iff_not] at h
  by_cases h1 : size = 3 ∨ size = 4
  · rw [decide_eq_true h1]
    by_cases h2 : many < 0
    · have t1 : decide (many < 0) = true := decide_eq_true h2
      clear h h1 h2
      go_wp2_with fail
      have hV := HV.out
      clear HV
      generalize ((w'.setCell ⟨w.heap.size, 0, none⟩ (.string ⟨#[]⟩)).setCell ⟨w.heap.size + 1, 0, none⟩ (.int .i64 0)).setCell ⟨w.heap.size + 1 + 1, 0, none⟩ (.int .i64 1) = V at *
      have e0 := hV.a.c 0 _ rfl
      have e1 := hV.b.c 0 _ rfl
      have e2 := hV.c.c 0 _ rfl
      refine ⟨.tuple #[.string ⟨#[]⟩, .int .i64 0, .int .i64 1], ?_, rfl, hV.below⟩
      simp [results, Try.results18, go_sem, e0, e1, e2, strV]
    · have t1 : decide (many < 0) = false := decide_eq_false h2
      have t2 : decide (256 < many) = true := decide_eq_true (by omega)
      clear h h1 h2
      go_wp2_with fail
      have hV := HV.out
      clear HV
      generalize ((w'.setCell ⟨w.heap.size, 0, none⟩ (.string ⟨#[]⟩)).setCell ⟨w.heap.size + 1, 0, none⟩ (.int .i64 0)).setCell ⟨w.heap.size + 1 + 1, 0, none⟩ (.int .i64 1) = V at *
      have e0 := hV.a.c 0 _ rfl
      have e1 := hV.b.c 0 _ rfl
      have e2 := hV.c.c 0 _ rfl
      refine ⟨.tuple #[.string ⟨#[]⟩, .int .i64 0, .int .i64 1], ?_, rfl, hV.below⟩
      simp [results, Try.results18, go_sem, e0, e1, e2, strV]
  · rw [decide_eq_false h1]
    clear h h1
    go_wp2_with fail
    have hV := HV.out
    clear HV
    generalize ((w'.setCell ⟨w.heap.size, 0, none⟩ (.string ⟨#[]⟩)).setCell ⟨w.heap.size + 1, 0, none⟩ (.int .i64 0)).setCell ⟨w.heap.size + 1 + 1, 0, none⟩ (.int .i64 1) = V at *
    have e0 := hV.a.c 0 _ rfl
    have e1 := hV.b.c 0 _ rfl
    have e2 := hV.c.c 0 _ rfl
    refine ⟨.tuple #[.string ⟨#[]⟩, .int .i64 0, .int .i64 1], ?_, rfl, hV.below⟩
    simp [results, Try.results18, go_sem, e0, e1, e2, strV]
set_option maxHeartbeats 1600000 in
theorem unp_yes (s : List UInt8) (z need : Nat) (w : World) (hz : z = 3 ∨ z = 4) (hn : need ≤ 256) (hl : s.length ≤ 1000000) :
    Calls Try.prog 18 #[.string ⟨s.toArray⟩, .int .i64 (z : Int), .int .i64 (need : Int)] w (UnpRes (match unpackT z need s with | some o => (o.1, (s.length : Int) - (o.2.length : Int), 0) | none => ([], 0, 6)) w) := by
  have K := Lib.hid (fun W => colours_any (z : Int) W)
  rw [decide_eq_true (show (z : Int) = 3 ∨ (z : Int) = 4 by omega)] at K
  have hv := UnVars.new w 9 3 29
  have hz3 : (((w.alloc (.cells #[.string ⟨#[]⟩] 9)).alloc (.cells #[.int .i64 0] 3)).alloc (.cells #[.int .i64 0] 29)).heap.size = w.heap.size + 3 := by simp
  have t1 : decide ((need : Int) < 0) = false := decide_eq_false (by omega)
  have t2 : decide (256 < (need : Int)) = false := decide_eq_false (by omega)
  have hmf := makes_func
  have HV0 := Lib.hid hv
  clear hv
  obtain ⟨R, hR⟩ : ∃ R : List UInt8 × Int × Int, R = (match unpackT z need s with | some o => (o.1, (s.length : Int) - (o.2.length : Int), 0) | none => ([], 0, 6)) := ⟨_, rfl⟩
  rw [← hR]
  have HR := Lib.hid hR; clear hR
  go_enter_defers Try.func18, Try.ntmps18
  go_wp2_with fail
  generalize ((w.alloc (.cells #[.string ⟨#[]⟩] 9)).alloc (.cells #[.int .i64 0] 3)).alloc (.cells #[.int .i64 0] 29) = W0 at *
  refine (K.out _).mono ?_
  clear K
  rintro e w' ⟨rfl, rfl⟩
  have hrd := SlotN.new w' [strV s] #[.string ⟨s.toArray⟩] 71 rfl
  have hbA : Below w'.heap.size w' (w'.alloc (.cells #[.string ⟨s.toArray⟩] 71)) := (Below.refl _ _).alloc (Nat.le_refl _) _
  have hv1 : UnVars w (w'.alloc (.cells #[.string ⟨s.toArray⟩] 71)) [] 0 0 := HV0.out.below' (g := w'.heap.size) (by omega) ⟨hbA.os, hbA.tape, hbA.output, hbA.size, fun k hk _ => hbA.block k hk⟩
  have hz4 : w'.heap.size < (w'.alloc (.cells #[.string ⟨s.toArray⟩] 71)).heap.size := by simp
  obtain ⟨G, hG⟩ : ∃ G, G = w.heap.size + 3 := ⟨_, rfl⟩
  have hG3 : w.heap.size + 3 ≤ G := by omega
  have KU := Lib.hid (unpack_any G z need s (w'.alloc (.cells #[.string ⟨s.toArray⟩] 71)) (by rw [hG, ← hz3]; exact hrd) (by rw [hG, ← hz3]; exact hz4) hz hl hn)
  have HV1 := Lib.hid hv1
  clear hrd hbA hv1 hz4 HV0
  go_wp2_with fail
  rw [← hG]
  refine KU.out.mono ?_
  clear KU
  rintro e w2 ⟨hgr, hsome, hnone⟩
  have HV2 := Lib.hid (HV1.out.below' hG3 hgr)
  clear hgr HV1
  cases hu : unpackT z need s with
  | some o =>
    obtain ⟨rfl, hs2⟩ := hsome o hu
    have hre := unpack_rest need s o hu
    have hRR : Hid (R = (o.1, (s.length : Int) - (o.2.length : Int), 0)) := Lib.hid (by rw [HR.out, hu])
    clear hnone hsome hu
    obtain ⟨o1, o2⟩ := o
    subst hG
    have HS2 := Lib.hid hs2; clear hs2
    unfold strV
    have d3 := HS2.out.c 0 _ rfl
    have d0 := HV2.out.a.c 0 _ rfl
    have d1 := HV2.out.b.c 0 _ rfl
    have d2 := HV2.out.c.c 0 _ rfl
    have f0 := HV2.out.a.f 0
    have f1 := HV2.out.b.f 0
    have f2 := HV2.out.c.f 0
    unfold strV at d0 d3
    have hl2 : o2.length ≤ 1000000 := Nat.le_trans hre hl
    have HF := Lib.hid (set3_cells w w2 HV2.out o1 ((s.length : Int) - (o2.length : Int)) 0)
    unfold strV at HF
    go_wp2_with fail
    go_region
    go_wp2_with fail
    refine leaves_cons (f := 42) (args := #[.pointer (some ⟨w.heap.size + 1 + 1, 0, none⟩), .func (.func 43) #[] #[.pointer (some ⟨w.heap.size, 0, none⟩), .pointer (some ⟨w.heap.size + 1, 0, none⟩)]]) (by simp) (by simp [go_sem]) ?_
    refine (caught_idle _ _ _).mono ?_
    rintro e u' w'' ⟨rfl, rfl, rfl⟩
    have HF := HF.out
    rw [hRR.out]
    generalize ((w2.setCell ⟨w.heap.size, 0, none⟩ (.string ⟨o1.toArray⟩)).setCell ⟨w.heap.size + 1, 0, none⟩ (.int .i64 ((s.length : Int) - (o2.length : Int)))).setCell ⟨w.heap.size + 1 + 1, 0, none⟩ (.int .i64 0) = V at *
    have e0 := HF.a.c 0 _ rfl
    have e1 := HF.b.c 0 _ rfl
    have e2 := HF.c.c 0 _ rfl
    refine ⟨.tuple #[.string ⟨o1.toArray⟩, .int .i64 ((s.length : Int) - (o2.length : Int)), .int .i64 0], ?_, rfl, HF.below.drew⟩
    simp [results, Try.results18, go_sem, e0, e1, e2, strV]
  | none =>
    obtain rfl := hnone hu
    have hRR : Hid (R = ([], 0, 6)) := Lib.hid (by rw [HR.out, hu])
    clear hnone hsome hu
    unfold Thrown
    go_wp2_with fail
    have HE1 := Lib.hid (HV2.out.store_e 6)
    have HE2 := Lib.hid (HE1.out.store_a [])
    have HE3 := Lib.hid (HE2.out.store_b 0)
    refine leaves_cons (f := 42) (args := #[.pointer (some ⟨w.heap.size + 1 + 1, 0, none⟩), .func (.func 43) #[] #[.pointer (some ⟨w.heap.size, 0, none⟩), .pointer (some ⟨w.heap.size + 1, 0, none⟩)]]) (by simp) (by simp [go_sem]) ?_
    refine (caught_u (w.heap.size + 1 + 1) w.heap.size (w.heap.size + 1) 6 [] w2 _ (.int .i64 0) (HV2.out.c.c 0 _ rfl) (HV2.out.c.f 0) (clearU w.heap.size (w.heap.size + 1) _ _ _ HE1.out.a HE1.out.b (by omega))).mono ?_
    rintro e u' w'' ⟨rfl, rfl, rfl⟩
    have HF := HE3.out
    unfold strV at HF
    generalize ((w2.setCell ⟨w.heap.size + 1 + 1, 0, none⟩ (.int .i64 6)).setCell ⟨w.heap.size, 0, none⟩ (.string ⟨#[]⟩)).setCell ⟨w.heap.size + 1, 0, none⟩ (.int .i64 0) = V at *
    have e0 := HF.a.c 0 _ rfl
    have e1 := HF.b.c 0 _ rfl
    have e2 := HF.c.c 0 _ rfl
    rw [hRR.out]
    refine ⟨.tuple #[.string ⟨#[]⟩, .int .i64 0, .int .i64 6], ?_, rfl, HF.below⟩
    simp [results, Try.results18, go_sem, e0, e1, e2, strV]
theorem unp_any (s : List UInt8) (size many : Int) (w : World) (hl : s.length ≤ 1000000) : Calls Try.prog 18 #[.string ⟨s.toArray⟩, .int .i64 size, .int .i64 many] w (UnpRes (unR s size many) w) := by
  unfold unR
  cases h : unOk size many with
  | false => exact unp_no s size many w h
  | true =>
    unfold unOk at h
    rw [decide_eq_true_iff] at h
    obtain ⟨z, rfl⟩ : ∃ z : Nat, size = z := ⟨size.toNat, by omega⟩
    obtain ⟨n, rfl⟩ : ∃ n : Nat, many = n := ⟨many.toNat, by omega⟩
    exact unp_yes s z n w (by omega) (by omega) hl
end Go.Proofs.Ytfkkppagbhllgaa

/-
  A ROW OF BYTES IN MEMORY, its numbers as a list. Nothing of the program is named here.
-/
set_option linter.unusedVariables false
set_option linter.unusedSimpArgs false
namespace Go.Proofs.Ytfkkppagbhllgaa
open Go.RowKit

/-- block g holds the bytes bs at its head, and they may be written -/
structure RowN (w : World) (g : Nat) (bs : List Nat) : Prop where
  c : ∀ (j d : Nat), bs[j]? = some d → w.cell? ⟨g, j, none⟩ = some (.int .u8 (d : Int))
  f : ∀ j, j < bs.length → w.frozen? ⟨g, j, none⟩ = false
theorem RowN.below {w w' : World} {g B : Nat} {bs : List Nat} (h : RowN w g bs) (hb : Below B w w') (hg : g < B) : RowN w' g bs :=
  ⟨fun j d hj => (hb.cell (p := ⟨g, j, none⟩) hg).trans (h.c j d hj), fun j hj => (hb.frozen (p := ⟨g, j, none⟩) hg).trans (h.f j hj)⟩
theorem RowN.drew {w : World} {g : Nat} {bs : List Nat} (h : RowN w g bs) : RowN w.drew g bs := ⟨h.c, h.f⟩
theorem RowN.set {w : World} {g : Nat} {bs : List Nat} (h : RowN w g bs) (j d : Nat) (hj : j < bs.length) : RowN (w.setCell ⟨g, j, none⟩ (.int .u8 (d : Int))) g (bs.set j d) := by
  have h0 := h.c j _ (List.getElem?_eq_getElem hj)
  refine ⟨fun i x hi => ?_, fun i hi => by rw [World.frozen?_setCell]; exact h.f i (by simpa using hi)⟩
  rw [List.getElem?_set] at hi
  by_cases e : j = i
  · subst e
    rw [if_pos rfl, if_pos hj] at hi
    injection hi with hi; subst hi
    rw [World.cell?_setCell_same' _ _ _ (by rw [h0]; rfl)]
  · rw [if_neg e] at hi
    rw [World.cell?_setCell_other _ _ _ _ (by intro h9; injection h9 with _ h9; exact e h9)]
    exact h.c i x hi
theorem RowN.of_bytes (w : World) (s : List UInt8) (cap : Nat) (hc : s.length ≤ cap) (e : TypeId) : RowN (w.drew.alloc (.cells (bytesRow ⟨s.toArray⟩ cap) e ((bytesRow ⟨s.toArray⟩ cap).size, (bytesRow ⟨s.toArray⟩ cap).size + 1))) w.heap.size (s.map UInt8.toNat) := by
  refine ⟨fun j d hj => ?_, fun j hj => ?_⟩
  · have := World.cell?_alloc_mark w.drew (bytesRow ⟨s.toArray⟩ cap) e ((bytesRow ⟨s.toArray⟩ cap).size, (bytesRow ⟨s.toArray⟩ cap).size + 1) j
    rw [show w.drew.heap.size = w.heap.size from rfl] at this
    rw [this]
    rw [List.getElem?_map] at hj
    cases hs : s[j]? with
    | none => rw [hs] at hj; cases hj
    | some x =>
      rw [hs] at hj
      simp only [Option.map_some, Option.some.injEq] at hj
      subst hj
      obtain ⟨hlt, hx⟩ := List.getElem?_eq_some_iff.1 hs
      rw [bytesRow_at _ _ j (by simpa using hlt)]
      simp [hx]
  · have := World.frozen?_alloc_mark w.drew (bytesRow ⟨s.toArray⟩ cap) e (bytesRow ⟨s.toArray⟩ cap).size ((bytesRow ⟨s.toArray⟩ cap).size + 1) j
    rw [show w.drew.heap.size = w.heap.size from rfl] at this
    rw [this]
    have hsz : s.length ≤ (bytesRow ⟨s.toArray⟩ cap).size := by unfold bytesRow; simp
    have hj' : j < s.length := by simpa using hj
    simp; omega
/-- the row as a text -/
theorem RowN.text {P : Program} {w : World} {g : Nat} {bs : List Nat} (h : RowN w g bs) (hb : ∀ d ∈ bs, d < 256) (n cap : Nat) (hn : n = bs.length) (src dst e : TypeId) (hs : P.underlying src = some (.slice e)) (he : P.underlying e = some (.int .u8)) (hd : P.underlying dst = some .string) :
    (convert src dst (.slice (some ⟨g, 0, none⟩) n cap)).run P w = .ok (.string ⟨(bs.map UInt8.ofNat).toArray⟩) w := by
  subst hn
  have := run_convert_bytes_back (P := P) w src dst e ⟨g, 0, none⟩ cap (bs.map UInt8.ofNat) hs he hd fun j hj => by
    rw [addr_lit]
    simp only [List.length_map] at hj
    rw [h.c j _ (List.getElem?_eq_getElem hj)]
    simp only [List.getElem_map, UInt8.toNat_ofNat']
    rw [Nat.mod_eq_of_lt (hb _ (List.getElem_mem hj))]
  rwa [List.length_map] at this
end Go.Proofs.Ytfkkppagbhllgaa

/-
  THE STEPS OF tga.turned, slices.Chunk and its iterator.
-/
set_option linter.unusedVariables false
set_option linter.unusedSimpArgs false
namespace Go.Proofs.Ytfkkppagbhllgaa
open Go.RowKit Go.Shelf

theorem chunk_any (g n c z : Nat) (w : World) (hz : 1 ≤ z ∧ z ≤ 4) :
    Calls Try.prog 56 #[.slice (some ⟨g, 0, none⟩) n c, .int .i64 (z : Int)] w fun e w' =>
      e = .returned (.func (.func 69) #[] #[.pointer (some ⟨w.heap.size, 0, none⟩), .pointer (some ⟨w.heap.size + 1, 0, none⟩)]) ∧
      w' = (w.alloc (.cells #[.slice (some ⟨g, 0, none⟩) n c] 22)).alloc (.cells #[.int .i64 (z : Int)] 3) := by
  have t0 : decide ((z : Int) < 1) = false := decide_eq_false (by omega)
  go_enter Try.func56, Try.ntmps56
  go_wp2_with fail
  go_ret
  exact ⟨rfl, rfl⟩

attribute [local go_sem] Oper.semAt_some

/-- a chunk's number -/
abbrev ChI (m : Nat) := { k : Nat // k < m }
def chV (g z k : Nat) : Array Value := #[.slice (some ⟨g, k * z, none⟩) z z]
def Keep2 (b : Nat) (A B : World) : Prop := KeepB b A B ∧ KeepB (b + 1) A B
theorem Keep2.trans {b : Nat} {A B C : World} (h : Keep2 b A B) (k : Keep2 b B C) : Keep2 b A C := ⟨h.1.trans k.1, h.2.trans k.2⟩

set_option maxRecDepth 100000 in
set_option maxHeartbeats 1600000 in
theorem chunk1_in (l bp g n c z m : Nat) (hz : z = 3 ∨ z = 4) (hm : n = m * z) (hn : n ≤ 1000000) (hc : n ≤ c) (hc2 : c ≤ 9223372036854775807) (J Jx : List (ChI m) → World → Prop) (W : World)
    (hJa : AbidesFrom W.heap.size J)
    (hY : ∀ pre t W1, J pre W1 → pre.length < m → YieldAt Fence.wide 4 Try.prog l (chV g z t.1) W1 fun e W' =>
      (e = .returned (.bool true) ∧ J (pre ++ [t]) W' ∧ Keep2 bp W1 W') ∨ (e = .returned (.bool false) ∧ Jx (pre ++ [t]) W'))
    (c0 : W.cell? ⟨bp, 0, none⟩ = some (.slice (some ⟨g, 0, none⟩) n c)) (c1 : W.cell? ⟨bp + 1, 0, none⟩ = some (.int .i64 (z : Int))) (hbp : bp + 1 < W.heap.size) (h0 : J [] W) :
    CallsIn Fence.wide 5 Try.prog 69 #[.func (.yield l) #[] #[], .pointer (some ⟨bp, 0, none⟩), .pointer (some ⟨bp + 1, 0, none⟩)] W fun e W' => (∃ v, e = .returned v) ∧
      ((∃ ys : List (ChI m), ys.map Subtype.val = List.range m ∧ J ys W') ∨ (∃ pre, True ∧ Jx pre W')) := by
  have HY := Lib.hid hY; clear hY
  have HJA := Lib.hid hJa; clear hJa
  have HMN := Lib.hid hm
  obtain ⟨hz3, hz4⟩ : 3 ≤ z ∧ z ≤ 4 := by omega
  refine callsIn_of_wp Try.func69 rfl trivial ?_ rfl
  simp only [Try.ntmps69, List.size_toArray, List.length_cons, List.length_nil, Nat.reduceAdd, Nat.reduceSub, Array.replicate_succ, Array.replicate_zero, List.push_toArray, List.append_toArray, List.nil_append, List.cons_append]
  clear hm
  gi_wp2
  gi_loopw [4] (fun u wr => ∃ (k i : Nat) (pre : List (ChI m)), u = .int .i64 (i : Int) ∧ Hid (i = k * z) ∧ i ≤ n ∧ k ≤ m ∧ Hid (pre.map Subtype.val = List.range k) ∧ Hid (J pre wr) ∧ Keep2 bp W wr) (fun u _ => n - (intOf u).toNat)
  case atStart => exact ⟨0, 0, [], by simp, Lib.hid (by simp), by omega, by omega, Lib.hid rfl, Lib.hid h0, ⟨rfl, Nat.le_refl _⟩, ⟨rfl, Nat.le_refl _⟩⟩
  case round =>
    obtain ⟨k, i, pre, rfl, HI, hin, hk, hpre, hJ, hK⟩ := hrel
    have d0 := (hK.1.cell 0).trans c0
    have d1 := (hK.2.cell 0).trans c1
    have HK := Lib.hid hK; clear hK
    by_cases hlt : k < m
    · have hik : i + z ≤ n := by rw [HI.out, HMN.out, ← Nat.succ_mul]; exact Nat.mul_le_mul_right _ hlt
      have t0 : decide (i < n) = true := decide_eq_true (by omega)
      have HMI : ∀ ts ty W, (Builtin.min_ ts ty #[.int .i64 (z : Int), .int .i64 ((n - i : Nat) : Int)]).run Try.prog W = .ok (.int .i64 (z : Int)) W := fun ts ty W => by
        rw [run_min_int2, if_neg (by omega)]
      have hlen : pre.length < m := by
        have := congrArg List.length hpre.out
        simp at this; omega
      obtain ⟨fn, tmps, assign, body, hy, hR⟩ := HY.out pre ⟨k, hlt⟩ wr.drew (abide_below HJA.out hJ.out (Below.refl _ _).drew) hlen
      have HP : Hid ((pre ++ [(⟨k, hlt⟩ : ChI m)]).map Subtype.val = List.range (k + 1)) := Lib.hid (by rw [List.map_append, hpre.out, List.range_succ]; rfl)
      dsimp only [chV] at hy
      rw [← HI.out] at hy
      clear hlen
      have a1 : (⟨g, 0, none⟩ : Addr).add i = ⟨g, i, none⟩ := addr_lit _ _
      have i0 : (0 : Int) ≤ (i : Int) := by omega
      have e9 : ((i : Int) + (z : Int)).toNat - i = z := by omega
      gi_wp2
      gi_region
      gi_wp2
      refine hR.mono ?_
      rintro e W3 (⟨rfl, hJ3, hk3⟩ | ⟨rfl, hJx3⟩)
      · have hK3 := HK.out.trans hk3
        have d0 := (hK3.1.cell 0).trans c0
        have d1 := (hK3.2.cell 0).trans c1
        have HK3 := Lib.hid hK3
        have HJ3 := Lib.hid hJ3; clear hJ3 hk3 hK3
        have HI2 : Hid (i + z = (k + 1) * z) := Lib.hid (by rw [Nat.succ_mul, HI.out])
        gi_wp2
        go_roundw
        case rel => exact ⟨k + 1, i + z, _, by go_num, HI2, hik, by omega, HP, HJ3, HK3.out⟩
        case measure => simp only [intOf]; omega
      · have HJx := Lib.hid hJx3; clear hJx3
        gi_wp2
        refine bodyPost_ret (results_none rfl _ _ _) rfl ?_
        exact ⟨⟨_, rfl⟩, .inr ⟨_, trivial, HJx.out⟩⟩
    · have t0 : decide (i < n) = false := decide_eq_false (by
        have : k = m := by omega
        rw [HI.out, this, HMN.out]; omega)
      have HFIN : Hid (pre.map Subtype.val = List.range m) := Lib.hid (by rw [hpre.out]; congr 1; omega)
      gi_wp2
      go_end0
      exact ⟨⟨_, rfl⟩, .inl ⟨pre, HFIN.out, hJ.out⟩⟩

/-! ### a drawn region in a round: as out of one, where it holds no defer statement -/
theorem upon_round {F : Fence} {n l : Nat} {P : Program} {o : Oper} {a : Act} {next : Act → World → Prop} {Q : Exit → Act → World → Prop} {r : Result Next} (h : o.uponIn F n P a next Q r) : o.uponIn (F.inRound l) n P a next Q r := by
  cases r with
  | ok x w' => cases x <;> exact h
  | halt x w' => cases x <;> exact h
theorem opIn_round {F : Fence} {n l i : Nat} {P : Program} {ops : Array Oper} {K : Act → World → Prop} {Q : Exit → Act → World → Prop} {a : Act} {w : World} (hro : F.round = none) (hd : ∀ o ∈ ops, ∀ c, o.op ≠ .defer c)
    (h : wpOpIn F n P ops Q i K a w) : wpOpIn (F.inRound l) n P ops Q i K a w := by
  unfold wpOpIn at *
  cases hi : ops[i]? with
  | none => simp only [hi] at h ⊢; exact h
  | some o =>
    simp only [hi] at h ⊢
    split
    · rename_i hw
      simp only [hw, if_true] at h
      refine ⟨h.1, ?_⟩
      have h2 := h.2
      rw [hro, Oper.semAt_none] at h2
      rw [show (F.inRound l).round = some l from rfl, Oper.semAt_some _ _ _ (hd o (Array.mem_of_getElem? hi))]
      exact upon_round h2
    · rename_i hw
      simp only [hw] at h
      exact h
theorem anyIn_round {F : Fence} {n l : Nat} {P : Program} {ops : Array Oper} {Q : Exit → Act → World → Prop} {md : Region.Mode} (hro : F.round = none) (hd : ∀ o ∈ ops, ∀ c, o.op ≠ .defer c) :
    ∀ (fuel : Nat) (listed : Array Bool) (a : Act) (w : World), wpAnyIn F n P md ops Q fuel listed a w → wpAnyIn (F.inRound l) n P md ops Q fuel listed a w
  | 0, _, _, _, h => h
  | fuel + 1, listed, a, w, h => ⟨h.1, fun i hi => wpOpIn_mono (fun a w h => anyIn_round hro hd fuel _ a w h) (opIn_round hro hd (h.2 i hi))⟩
def notDefer (o : Oper) : Bool := match o.op with | .defer _ => false | _ => true
theorem notDefer_all {ops : Array Oper} (h : ops.all notDefer = true) : ∀ o ∈ ops, ∀ c, o.op ≠ .defer c := by
  intro o ho c e
  rw [Array.all_eq_true_iff_forall_mem] at h
  have := h o ho
  unfold notDefer at this
  rw [e] at this
  cases this
theorem region_round {F : Fence} {n l id : Nat} {P : Program} {ops : Array Oper} {Q : Exit → Act → World → Prop} {a : Act} {w : World} (hro : F.round = none) (hd : ∀ o ∈ ops, ∀ c, o.op ≠ .defer c) (hm : P.follows .mixedOrders = true)
    (h : wpAnyIn F n P .any ops Q ops.size (Array.replicate ops.size false) a { w with drawn := w.drawn + 1 }) : (Code.region id ops true).wpIn (F.inRound l) n P Q a w :=
  wpIn_region_any hm (anyIn_round hro hd _ _ _ _ h)

/-- chunks changed one by one -/
def foldT (z : Nat) (s : List UInt8) (ks : List Nat) : List UInt8 := ks.foldl (fun l k => swapT l (k * z)) s
theorem foldT_len (z : Nat) : ∀ (ks : List Nat) (s : List UInt8), (foldT z s ks).length = s.length
  | [], s => rfl
  | k :: ks, s => by
    have := foldT_len z ks (swapT s (k * z))
    rw [swapT_len] at this
    exact this
theorem foldT_snoc (z : Nat) (s : List UInt8) (ks : List Nat) (k : Nat) : foldT z s (ks ++ [k]) = swapT (foldT z s ks) (k * z) := by simp [foldT]
theorem foldT_range (z : Nat) (s : List UInt8) : ∀ m, foldT z s (List.range m) = turnK z s m
  | 0 => rfl
  | m + 1 => by rw [List.range_succ, foldT_snoc, foldT_range z s m, turnK]
theorem RowN.own {w w' : World} {g : Nat} {bs : List Nat} {row : Option Nat} (h : RowN w g bs) (hg : w.grownBy w' row) (hr : ∀ r, row = some r → ∃ o : Obj, w.heap[r]? = some o ∧ o.isCells = false) : RowN w' g bs := by
  refine ⟨fun j d hj => cell_kept (h.c j d hj) hg hr, fun j hj => (frozen_kept (h.c j _ (List.getElem?_eq_getElem hj)) hg hr).trans (h.f j hj)⟩
theorem swap_nat (l : List UInt8) (i : Nat) (h : i + 2 < l.length) : (swapT l i).map UInt8.toNat = ((l.map UInt8.toNat).set i (l.getD (i + 2) 0).toNat).set (i + 2) (l.getD i 0).toNat := by
  unfold swapT; rw [List.map_set, List.map_set]
theorem chunk_stops (bp g n c z m : Nat) (hz : z = 3 ∨ z = 4) (hm : n = m * z) (hn : n ≤ 1000000) (hc : n ≤ c) (hc2 : c ≤ 9223372036854775807) (w : World)
    (c0 : w.cell? ⟨bp, 0, none⟩ = some (.slice (some ⟨g, 0, none⟩) n c)) (c1 : w.cell? ⟨bp + 1, 0, none⟩ = some (.int .i64 (z : Int))) (hbp : bp + 1 < w.heap.size) :
    SeqStopsK Fence.wide 5 Try.prog 69 #[.pointer (some ⟨bp, 0, none⟩), .pointer (some ⟨bp + 1, 0, none⟩)] (fun t : ChI m => chV g z t.1) (Keep2 bp)
      (fun ys => ys.map Subtype.val = List.range m) (fun _ => True) m w := fun l J Jx W hW hJ _ hY h0 => by
  have e : ∀ k j, k < w.heap.size → W.cell? ⟨k, j, none⟩ = w.cell? ⟨k, j, none⟩ := fun k j hk => hW.cell (p := ⟨k, j, none⟩) hk
  exact chunk1_in l bp g n c z m hz hm hn hc hc2 J Jx W hJ hY (by rw [e _ _ (by omega)]; exact c0) (by rw [e _ _ (by omega)]; exact c1) (Nat.lt_of_lt_of_le hbp hW.size) h0
theorem keepB_set {b : Nat} {W : World} (g j : Nat) (u : Value) (hne : g ≠ b) : KeepB b W (W.setCell ⟨g, j, none⟩ u) :=
  ⟨Below.heap_setCell _ _ _ _ (fun e => hne e.symm), by simp⟩

set_option maxRecDepth 100000 in
set_option maxHeartbeats 1600000 in
theorem turned_any (z m : Nat) (s : List UInt8) (w : World) (hz : z = 3 ∨ z = 4) (hl : s.length ≤ 1000000) (hm : s.length = m * z) (hm0 : 0 < m) :
    Calls Try.prog 33 #[.string ⟨s.toArray⟩, .int .i64 (z : Int)] w (SR w (turnedT z s)) := by
  have hz9 : 1 ≤ z ∧ z ≤ 4 := by omega
  have hT : turnedT z s = foldT z s (List.range m) := by
    unfold turnedT
    rw [foldT_range, hm, Nat.mul_div_cancel _ (by omega)]
  rw [hT]
  have hcv := run_bytes_of_string (P := Try.prog) w 9 22 5 ⟨s.toArray⟩ Try.underlying9 Try.underlying22 Try.underlying5
  obtain ⟨n, hn⟩ : ∃ n, n = s.length := ⟨_, rfl⟩
  have hsz : (⟨s.toArray⟩ : ByteArray).size = n := hn.symm
  have hn0 : 0 < n := by rw [hn, hm]; exact Nat.mul_pos hm0 (by omega)
  rw [← hn] at hl
  obtain ⟨cap, hcap⟩ : ∃ c, c = grownCap w n 0 5 := ⟨_, rfl⟩
  have hcap2 : n ≤ cap := by rw [hcap]; exact grownCap_ge _ _ _ _
  have hcap3 : cap ≤ 9223372036854775807 := by rw [hcap]; exact grownCap_le_maxLen _ _ _ _ (by unfold maxLen; omega)
  have r0 := RowN.of_bytes w s cap (by rw [← hn]; exact hcap2) 5
  have hb0 : Below w.heap.size w (w.drew.alloc (.cells (bytesRow ⟨s.toArray⟩ cap) 5 ((bytesRow ⟨s.toArray⟩ cap).size, (bytesRow ⟨s.toArray⟩ cap).size + 1))) := (Below.refl _ _).drew.alloc (Nat.le_refl _) _
  have hz0 : (w.drew.alloc (.cells (bytesRow ⟨s.toArray⟩ cap) 5 ((bytesRow ⟨s.toArray⟩ cap).size, (bytesRow ⟨s.toArray⟩ cap).size + 1))).heap.size = w.heap.size + 1 := by simp
  rw [hsz, ← hcap] at hcv
  obtain ⟨V, hV⟩ : ∃ V, V = w.drew.alloc (.cells (bytesRow ⟨s.toArray⟩ cap) 5 ((bytesRow ⟨s.toArray⟩ cap).size, (bytesRow ⟨s.toArray⟩ cap).size + 1)) := ⟨_, rfl⟩
  rw [← hV] at hcv r0 hb0 hz0
  clear hV hcap
  have FIN : Hid (∀ w', Below w.heap.size w w' → SR w (foldT z s (List.range m)) (.returned (.string ⟨(foldT z s (List.range m)).toArray⟩)) w') := Lib.hid fun w' hb => ⟨rfl, hb⟩
  generalize hQ : SR w (foldT z s (List.range m)) = Qp at FIN ⊢
  clear hQ
  have HN := Lib.hid hn
  have HMM : Hid (n = m * z) := Lib.hid (hn.trans hm)
  clear hn hm hsz hT
  refine (callsIn_wide (n := 6)).1 ?_
  refine callsIn_of_wp_marks Try.func33 rfl trivial ?_ rfl
  simp only [Try.ntmps33, List.size_toArray, List.length_cons, List.length_nil, Nat.reduceAdd, Nat.reduceSub, Array.replicate_succ, Array.replicate_zero, List.push_toArray, List.append_toArray, List.nil_append, List.cons_append]
  gi_wp2
  refine ⟨trivial, (callsIn_wide.2 (chunk_any w.heap.size n cap z V hz9)).mono ?_⟩
  rintro e w' ⟨rfl, rfl⟩
  have s1 := SlotN.new V [.slice (some ⟨w.heap.size, 0, none⟩) n cap] #[.slice (some ⟨w.heap.size, 0, none⟩) n cap] 22 rfl
  have b1 : Below V.heap.size V (V.alloc (.cells #[.slice (some ⟨w.heap.size, 0, none⟩) n cap] 22)) := (Below.refl _ _).alloc (Nat.le_refl _) _
  have z1 : (V.alloc (.cells #[.slice (some ⟨w.heap.size, 0, none⟩) n cap] 22)).heap.size = w.heap.size + 1 + 1 := by simp [hz0]
  rw [hz0] at s1
  generalize V.alloc (.cells #[.slice (some ⟨w.heap.size, 0, none⟩) n cap] 22) = V1 at *
  have s2 := SlotN.new V1 [.int .i64 (z : Int)] #[.int .i64 (z : Int)] 3 rfl
  have b2 : Below V1.heap.size V1 (V1.alloc (.cells #[.int .i64 (z : Int)] 3)) := (Below.refl _ _).alloc (Nat.le_refl _) _
  have z2 : (V1.alloc (.cells #[.int .i64 (z : Int)] 3)).heap.size = w.heap.size + 3 := by simp [z1]
  rw [z1] at s2
  generalize V1.alloc (.cells #[.int .i64 (z : Int)] 3) = W0 at *
  have s1 := s1.below b2 (by omega)
  have r2 := (r0.below b1 (by omega)).below b2 (by omega)
  have hbW : Below w.heap.size w W0 := hb0.trans ((b1.mono (by omega)).trans (b2.mono (by omega)))
  clear r0 b1 b2 hb0 hcv
  have HSEQ := Lib.hid (chunk_stops (w.heap.size + 1) w.heap.size n cap z m hz HMM.out hl hcap2 hcap3 W0 (s1.c 0 _ rfl) (s2.c 0 _ rfl) (by omega))
  gi_wp2
  refine wpIn_rangeFunc_ownH (F := Fence.wide) rfl (show 1 ≤ 6 by omega) (gf := 69) (lb := #[.pointer (some ⟨w.heap.size + 1, 0, none⟩), .pointer (some ⟨w.heap.size + 1 + 1, 0, none⟩)]) rfl trivial (enters_of Try.func69 (by kernel_rfl) rfl)
    HSEQ.out (fun h k => h.trans k) (fun W l o o' hl9 ho hc _ => ⟨⟨by rw [World.putObj_heap_other (by omega)], by simp [World.putObj]⟩, ⟨by rw [World.putObj_heap_other (by omega)], by simp [World.putObj]⟩⟩) (Below.refl _ _) (fun _ => rfl)
    (fun pre W => RowN W w.heap.size ((foldT z s (pre.map Subtype.val)).map UInt8.toNat) ∧ Below w.heap.size w W ∧ W0.heap.size ≤ W.heap.size) (fun _ _ _ => False)
    (fun pre X Y row h hg hr => ⟨h.1.own hg (fun r e => (hr r e).2), h.2.1.grown hg h.2.1.size (fun r e => by have := (hr r e).1; omega), Nat.le_trans h.2.2 hg.size⟩) (fun _ _ _ _ _ h _ _ => h) ⟨r2, hbW, Nat.le_refl _⟩
    (fun t a' W => a' = { tmps := #[.string ⟨s.toArray⟩, .int .i64 (z : Int), undef, undef, .string ⟨#[]⟩, .slice (some ⟨w.heap.size, 0, none⟩) n cap, .slice (some ⟨w.heap.size, t.1 * z, none⟩) z z, .string ⟨s.toArray⟩, .slice (some ⟨w.heap.size, 0, none⟩) n cap, .slice (some ⟨w.heap.size, 0, none⟩) n cap, .int .i64 (z : Int),
      .func (.func 69) #[] #[.pointer (some ⟨w.heap.size + 1, 0, none⟩), .pointer (some ⟨w.heap.size + 1 + 1, 0, none⟩)], .slice (some ⟨w.heap.size, t.1 * z, none⟩) z z, undef, undef, undef, undef, undef, undef, undef, undef, undef, undef, undef, undef], defers := [] })
    (fun t a' _ X Y row hs hg hr => hs)
    ?assign ?body ?done ?stop
  case assign =>
    rintro l pre t W K' hI hK'
    dsimp only [chV]
    gi_wp2
    exact hK' _ _ (KeepsFrom.refl _ _) ⟨⟨rfl, Nat.le_refl _⟩, ⟨rfl, Nat.le_refl _⟩⟩ hI rfl
  case body =>
    rintro l pre t a' W hl9 hr9 ⟨hr, hb, hsz⟩ rfl hlen
    obtain ⟨k, hk⟩ := t
    dsimp only
    have hP : Hid (∀ h, foldT z s ((pre ++ [(⟨k, h⟩ : ChI m)]).map Subtype.val) = swapT (foldT z s (pre.map Subtype.val)) (k * z)) := Lib.hid fun h => by rw [List.map_append]; exact foldT_snoc _ _ _ _
    have hlf : (foldT z s (pre.map Subtype.val)).length = n := by rw [foldT_len, HN.out]
    generalize foldT z s (pre.map Subtype.val) = x at *
    have hkz : k * z + z ≤ n := by rw [HMM.out, ← Nat.succ_mul]; exact Nat.mul_le_mul_right _ hk
    obtain ⟨i, hi⟩ : ∃ i, i = k * z := ⟨_, rfl⟩
    rw [← hi] at hkz hP ⊢
    clear hi
    have hml : (x.map UInt8.toNat).length = n := by simp [hlf]
    have hr1 := hr.set i (x.getD (i + 2) 0).toNat (by omega)
    have hr2 := hr1.set (i + 2) (x.getD i 0).toNat (by simp; omega)
    rw [← swap_nat x i (by omega)] at hr2
    have HR2 := Lib.hid hr2
    have c0 : W.cell? ⟨w.heap.size, i, none⟩ = some (.int .u8 ((x.getD i 0).toNat : Int)) := hr.c _ _ (by rw [List.getElem?_map, List.getElem?_eq_getElem (by omega), List.getD_eq_getElem?_getD, List.getElem?_eq_getElem (by omega)]; rfl)
    have c2 : W.cell? ⟨w.heap.size, i + 2, none⟩ = some (.int .u8 ((x.getD (i + 2) 0).toNat : Int)) := hr.c _ _ (by rw [List.getElem?_map, List.getElem?_eq_getElem (by omega), List.getD_eq_getElem?_getD, List.getElem?_eq_getElem (by omega)]; rfl)
    have f0 := hr.f i (by omega)
    have f2 := hr.f (i + 2) (by omega)
    have a2 : (⟨w.heap.size, i, none⟩ : Addr).add 2 = ⟨w.heap.size, i + 2, none⟩ := rfl
    have hKO : Hid (Keep2 (w.heap.size + 1) W ((W.setCell ⟨w.heap.size, i, none⟩ (.int .u8 ((x.getD (i + 2) 0).toNat : Int))).setCell ⟨w.heap.size, i + 2, none⟩ (.int .u8 ((x.getD i 0).toNat : Int)))) := Lib.hid
      ⟨(keepB_set _ _ _ (by omega)).trans (keepB_set _ _ _ (by omega)), (keepB_set _ _ _ (by omega)).trans (keepB_set _ _ _ (by omega))⟩
    have hz3 : (2 : Int) < (z : Int) := by omega
    have hz30 : (0 : Int) < (z : Int) := by omega
    have hz31 : 0 < z := by omega
    clear hr hr1 hr2 hml
    have HLF := Lib.hid hlf
    clear hlf
    generalize ((x.getD i 0).toNat : Int) = v0 at *
    generalize ((x.getD (i + 2) 0).toNat : Int) = v2 at *
    gi_wp2
    refine region_round rfl (notDefer_all (by kernel_rfl)) (by kernel_rfl) ?_
    refine wpAnyIn_take (i := 0) (v := ?_) rfl rfl (by kernel_rfl) (by kernel_rfl) (by kernel_rfl) (fun _ _ _ h => h) ⟨.inl ⟨by kernel_rfl, fun ww => ?_⟩, fun ww => rfl⟩ ?_
    rotate_left
    · first | (go_simp; done) | (go_simp; with_reducible rfl)
    simp only [Act.put, List.setIfInBounds_toArray, List.set_cons_zero, List.set_cons_succ]
    refine wpAnyIn_take (i := 1) (v := ?_) rfl rfl (by kernel_rfl) (by kernel_rfl) (by kernel_rfl) (fun _ _ _ h => h) ⟨.inl ⟨by kernel_rfl, fun ww => ?_⟩, fun ww => rfl⟩ ?_
    rotate_left
    · first | (go_simp; done) | (go_simp; with_reducible rfl)
    simp only [Act.put, List.setIfInBounds_toArray, List.set_cons_zero, List.set_cons_succ]
    refine wpAnyIn_take (i := 2) (v := ?_) rfl rfl (by kernel_rfl) (by kernel_rfl) (by kernel_rfl) (fun _ _ _ h => h) ⟨.inl ⟨by kernel_rfl, fun ww => ?_⟩, fun ww => rfl⟩ ?_
    rotate_left
    · first | (go_simp; done) | (go_simp; with_reducible rfl)
    simp only [Act.put, List.setIfInBounds_toArray, List.set_cons_zero, List.set_cons_succ]
    refine wpAnyIn_take (i := 5) (v := ?_) rfl rfl (by kernel_rfl) (by kernel_rfl) (by kernel_rfl) (fun _ _ _ h => h) ⟨.inl ⟨by kernel_rfl, fun ww => ?_⟩, fun ww => rfl⟩ ?_
    rotate_left
    · first | (go_simp; done) | (go_simp; with_reducible rfl)
    simp only [Act.put, List.setIfInBounds_toArray, List.set_cons_zero, List.set_cons_succ]
    refine wpAnyIn_take (i := 3) (v := ?_) rfl rfl (by kernel_rfl) (by kernel_rfl) (by kernel_rfl) (fun _ _ _ h => h) ⟨.inl ⟨by kernel_rfl, fun ww => ?_⟩, fun ww => rfl⟩ ?_
    rotate_left
    · first | (go_simp; done) | (go_simp; with_reducible rfl)
    simp only [Act.put, List.setIfInBounds_toArray, List.set_cons_zero, List.set_cons_succ]
    refine wpAnyIn_take (i := 6) (v := ?_) rfl rfl (by kernel_rfl) (by kernel_rfl) (by kernel_rfl) (fun _ _ _ h => h) ⟨.inl ⟨by kernel_rfl, fun ww => ?_⟩, fun ww => rfl⟩ ?_
    rotate_left
    · first | (go_simp; done) | (go_simp; with_reducible rfl)
    simp only [Act.put, List.setIfInBounds_toArray, List.set_cons_zero, List.set_cons_succ]
    refine wpAnyIn_ready (rs := [4, 7]) (by kernel_rfl) (by simp) ?_
    refine AllReadyIn.cons rfl (fun K hK => ?_) (AllReadyIn.cons rfl (fun K hK => ?_) AllReadyIn.nil)
    · go_simp
      refine hK _ _ ?_
      clear hK K
      refine wpAnyIn_ready (rs := [7]) (by kernel_rfl) (by simp) ?_
      refine AllReadyIn.cons rfl (fun K hK => ?_) AllReadyIn.nil
      go_simp
      refine hK _ _ ?_
      clear hK K
      refine wpAnyIn_take (i := 8) (v := ?_) rfl rfl (by kernel_rfl) (by kernel_rfl) (by kernel_rfl) (fun _ _ _ h => h) ⟨.inl ⟨by kernel_rfl, fun ww => ?_⟩, fun ww => rfl⟩ ?_
      rotate_left
      · first | (go_simp; done) | (go_simp; with_reducible rfl)
      simp only [Act.put, List.setIfInBounds_toArray, List.set_cons_zero, List.set_cons_succ]
      refine wpAnyIn_ready (rs := [9]) (by kernel_rfl) (by simp) ?_
      refine AllReadyIn.cons rfl (fun K hK => ?_) AllReadyIn.nil
      go_simp
      refine hK _ _ ?_
      clear hK K
      refine wpAnyIn_take (i := 10) (v := ?_) rfl rfl (by kernel_rfl) (by kernel_rfl) (by kernel_rfl) (fun _ _ _ h => h) ⟨.inl ⟨by kernel_rfl, fun ww => ?_⟩, fun ww => rfl⟩ ?_
      rotate_left
      · first | (go_simp; done) | (go_simp; with_reducible rfl)
      simp only [Act.put, List.setIfInBounds_toArray, List.set_cons_zero, List.set_cons_succ]
      refine wpAnyIn_ready (rs := [11]) (by kernel_rfl) (by simp) ?_
      refine AllReadyIn.cons rfl (fun K hK => ?_) AllReadyIn.nil
      go_simp
      refine hK _ _ ?_
      clear hK K
      refine wpAnyIn_done (by kernel_rfl) ?_ _
      exact ⟨(((KeepsOthers.setCell _ _ _).trans (KeepsOthers.setCell _ _ _)).trans (KeepsOthers.drew _)).from _, hKO.out, by rw [hP.out]; exact HR2.out.drew, ((hb.setCell (p := ⟨w.heap.size, i, none⟩) (Nat.le_refl _) _).setCell (p := ⟨w.heap.size, i + 2, none⟩) (Nat.le_refl _) _).drew, by simpa using hsz⟩
    · go_simp
      refine hK _ _ ?_
      clear hK K
      refine wpAnyIn_ready (rs := [4]) (by kernel_rfl) (by simp) ?_
      refine AllReadyIn.cons rfl (fun K hK => ?_) AllReadyIn.nil
      go_simp
      refine hK _ _ ?_
      clear hK K
      refine wpAnyIn_take (i := 8) (v := ?_) rfl rfl (by kernel_rfl) (by kernel_rfl) (by kernel_rfl) (fun _ _ _ h => h) ⟨.inl ⟨by kernel_rfl, fun ww => ?_⟩, fun ww => rfl⟩ ?_
      rotate_left
      · first | (go_simp; done) | (go_simp; with_reducible rfl)
      simp only [Act.put, List.setIfInBounds_toArray, List.set_cons_zero, List.set_cons_succ]
      refine wpAnyIn_ready (rs := [9]) (by kernel_rfl) (by simp) ?_
      refine AllReadyIn.cons rfl (fun K hK => ?_) AllReadyIn.nil
      go_simp
      refine hK _ _ ?_
      clear hK K
      refine wpAnyIn_take (i := 10) (v := ?_) rfl rfl (by kernel_rfl) (by kernel_rfl) (by kernel_rfl) (fun _ _ _ h => h) ⟨.inl ⟨by kernel_rfl, fun ww => ?_⟩, fun ww => rfl⟩ ?_
      rotate_left
      · first | (go_simp; done) | (go_simp; with_reducible rfl)
      simp only [Act.put, List.setIfInBounds_toArray, List.set_cons_zero, List.set_cons_succ]
      refine wpAnyIn_ready (rs := [11]) (by kernel_rfl) (by simp) ?_
      refine AllReadyIn.cons rfl (fun K hK => ?_) AllReadyIn.nil
      go_simp
      refine hK _ _ ?_
      clear hK K
      refine wpAnyIn_done (by kernel_rfl) ?_ _
      exact ⟨(((KeepsOthers.setCell _ _ _).trans (KeepsOthers.setCell _ _ _)).trans (KeepsOthers.drew _)).from _, hKO.out, by rw [hP.out]; exact HR2.out.drew, ((hb.setCell (p := ⟨w.heap.size, i, none⟩) (Nat.le_refl _) _).setCell (p := ⟨w.heap.size, i + 2, none⟩) (Nat.le_refl _) _).drew, by simpa using hsz⟩
  case done =>
    rintro D ys W hD hS ⟨hr, hb, hsz⟩ hKD
    rw [hS] at hr
    have hlf : (foldT z s (List.range m)).length = n := by rw [foldT_len, HN.out]
    have kc := hr.text (P := Try.prog) (fun d hd => by obtain ⟨x, _, rfl⟩ := List.mem_map.1 hd; exact x.toNat_lt) n cap (by simp [hlf]) 22 9 5 Try.underlying22 Try.underlying5 Try.underlying9
    have e9 : (((foldT z s (List.range m)).map UInt8.toNat).map UInt8.ofNat) = foldT z s (List.range m) := by
      rw [List.map_map]
      have : (UInt8.ofNat ∘ UInt8.toNat) = id := by funext x; simp
      rw [this, List.map_id]
    rw [e9] at kc
    clear e9 hlf hr hS
    have HB := Lib.hid hb
    clear hb
    gi_wp2
    show LeavesInM _ _ _ _ _ _ _ _ _
    refine leaves_marks (B := w.heap.size) _ W ⟨D, rfl, by omega, hKD, fun d' h => by simp at h, trivial⟩ fun w' hb' hc => ?_
    exact ⟨.string ⟨(foldT z s (List.range m)).toArray⟩, by simp [results, Try.results33, go_sem], FIN.out _ (HB.out.trans hb')⟩
  case stop => rintro D c' pre W hD hS h; exact h.elim
end Go.Proofs.Ytfkkppagbhllgaa

set_option linter.unusedVariables false
set_option linter.unusedSimpArgs false
set_option maxRecDepth 8000
namespace Go.Proofs.Ytfkkppagbhllgaa
open Go.RowKit

theorem SlotN.setAt {w : World} {g : Nat} {l : List Value} (h : SlotN w g l) (k : Nat) (hk : k < l.length) (v : Value) : SlotN (w.setCell ⟨g, k, none⟩ v) g (l.set k v) := by
  have h0 := h.c k _ (List.getElem?_eq_getElem hk)
  refine ⟨fun i x hi => ?_, fun i => by rw [World.frozen?_setCell]; exact h.f i⟩
  rw [List.getElem?_set] at hi
  by_cases e : k = i
  · subst e
    rw [if_pos rfl, if_pos hk] at hi
    injection hi with hi; subst hi
    rw [World.cell?_setCell_same' _ _ _ (by rw [h0]; rfl)]
  · rw [if_neg e] at hi
    rw [World.cell?_setCell_other _ _ _ _ (by intro h9; injection h9 with _ h9; exact e h9)]
    exact h.c i x hi
theorem SlotN.otherJ {w : World} {g : Nat} {l : List Value} (h : SlotN w g l) (g2 k : Nat) (hne : g2 ≠ g) (u : Value) : SlotN (w.setCell ⟨g2, k, none⟩ u) g l :=
  ⟨fun j x hj => by rw [World.cell?_setCell_other _ _ _ _ (by intro e; have := congrArg Addr.block e; simp at this; omega)]; exact h.c j x hj, fun j => by rw [World.frozen?_setCell]; exact h.f j⟩
/-- an image's value -/
def imV (w h bits : Int) (A : Option Addr) (n c : Nat) : Value := .agg #[.int .i64 w, .int .i64 h, .int .i64 bits, .slice A n c]
def u0 : Value := .int .u8 0
theorem made18 : madeCells #[.int .u8 0] 18 = #[u0, u0, u0, u0, u0, u0, u0, u0, u0, u0, u0, u0, u0, u0, u0, u0, u0, u0] := by kernel_rfl
theorem head_text (V : World) (g : Nat) (cs : List Value) (h : SlotN V g cs) (l : List UInt8) (hl : cs = Lib.byteCells l) (h18 : l.length = 18) : (convert 22 9 (.slice (some ⟨g, 0, none⟩) 18 18)).run Try.prog V = .ok (.string ⟨l.toArray⟩) V := by
  subst hl
  have := run_convert_bytes_back (P := Try.prog) V 22 9 5 ⟨g, 0, none⟩ 18 l Try.underlying22 Try.underlying5 Try.underlying9 fun j hj => by
    rw [addr_lit]
    exact h.c j _ (by simp [Lib.byteCells, List.getElem?_eq_getElem hj])
  rwa [h18] at this
theorem head_cells (p q z : Nat) (b : Int) (packed top : Bool) (h1 : p ≤ 256) (h2 : q ≤ 256) (hz : (z = 3 ∧ b = 24) ∨ (z = 4 ∧ b = 32)) :
    [u0, u0, .int .u8 (if packed then 10 else 2), u0, u0, u0, u0, u0, u0, u0, u0, u0, .int .u8 ((p : Int) % 256), .int .u8 ((p : Int) / 256), .int .u8 ((q : Int) % 256), .int .u8 ((q : Int) / 256), .int .u8 b, .int .u8 ((if z = 4 then 8 else 0) + (if top then 32 else 0))] = Lib.byteCells (headT p q z packed top) := by
  unfold Lib.byteCells headT u0
  have e1 := u8_of (p % 256) (by omega)
  have e2 := u8_of (p / 256) (by omega)
  have e3 := u8_of (q % 256) (by omega)
  have e4 := u8_of (q / 256) (by omega)
  simp only [List.map_cons, List.map_nil, e1, e2, e3, e4]
  rcases hz with ⟨rfl, rfl⟩ | ⟨rfl, rfl⟩ <;> cases packed <;> cases top <;> rfl
set_option maxHeartbeats 800000 in
theorem head_any (p q z : Nat) (A : Option Addr) (n c : Nat) (packed top : Bool) (w : World) (h1 : p ≤ 256) (h2 : q ≤ 256) (hz : z = 3 ∨ z = 4) :
    Calls Try.prog 31 #[imV p q ((8 * z : Nat) : Int) A n c, .bool packed, .bool top] w (SR w (headT p q z packed top)) := by
  unfold imV
  have hmk : ∀ W : World, (Instr.makeSlice 22 (.int .i64 18) (.int .i64 18)).run Try.prog W = .ok (.slice (some ⟨W.heap.size, 0, none⟩) 18 18) (W.alloc (.cells (madeCells #[.int .u8 0] 18) 5)) := fun W => run_make_row' (P := Try.prog) 22 5 (.int .u8 0) 1 Try.underlying22 size_u8 rfl .i64 .i64 18 (by omega) (by omega) W
  have hbx := SlotN.new w [.int .i64 (p : Int), .int .i64 (q : Int), .int .i64 ((8 * z : Nat) : Int), .slice A n c] #[.int .i64 (p : Int), .int .i64 (q : Int), .int .i64 ((8 * z : Nat) : Int), .slice A n c] 24 rfl
  have hbb : Below w.heap.size w (w.alloc (.cells #[.int .i64 (p : Int), .int .i64 (q : Int), .int .i64 ((8 * z : Nat) : Int), .slice A n c] 24)) := (Below.refl _ _).alloc (Nat.le_refl _) _
  have hz1 : (w.alloc (.cells #[.int .i64 (p : Int), .int .i64 (q : Int), .int .i64 ((8 * z : Nat) : Int), .slice A n c] 24)).heap.size = w.heap.size + 1 := by simp
  have s0 := SlotN.new (w.alloc (.cells #[.int .i64 (p : Int), .int .i64 (q : Int), .int .i64 ((8 * z : Nat) : Int), .slice A n c] 24)) [u0, u0, u0, u0, u0, u0, u0, u0, u0, u0, u0, u0, u0, u0, u0, u0, u0, u0] (madeCells #[.int .u8 0] 18) 5 made18
  have hb1 : Below (w.heap.size + 1) (w.alloc (.cells #[.int .i64 (p : Int), .int .i64 (q : Int), .int .i64 ((8 * z : Nat) : Int), .slice A n c] 24)) ((w.alloc (.cells #[.int .i64 (p : Int), .int .i64 (q : Int), .int .i64 ((8 * z : Nat) : Int), .slice A n c] 24)).alloc (.cells (madeCells #[.int .u8 0] 18) 5)) := (Below.refl _ _).alloc (by simp) _
  rw [hz1] at s0
  have hbx1 := hbx.below hb1 (by omega)
  have hB := hbb.trans (hb1.mono (by omega))
  clear hbx hbb hb1
  generalize hzz : ((8 * z : Nat) : Int) = zz at *
  have FIN : Hid (∀ w', Below w.heap.size w w' → SR w (headT p q z packed top) (.returned (.string ⟨(headT p q z packed top).toArray⟩)) w') := Lib.hid fun w' hb => ⟨rfl, hb⟩
  generalize hQ : SR w (headT p q z packed top) = Qp at FIN ⊢
  clear hQ
  have hmk0 := hmk (w.alloc (.cells #[.int .i64 (p : Int), .int .i64 (q : Int), .int .i64 zz, .slice A n c] 24))
  rw [hz1] at hmk0
  clear hmk
  generalize (w.alloc (.cells #[.int .i64 (p : Int), .int .i64 (q : Int), .int .i64 zz, .slice A n c] 24)).alloc (.cells (madeCells #[.int .u8 0] 18) 5) = V0 at *
  have d2 := s0.c 2 _ rfl
  have f2 := s0.f 2
  have s1 := s0.setAt 2 (by decide) (.int .u8 2)
  have hB1 := hB.setCell (p := ⟨w.heap.size + 1, 2, none⟩) (by simp) (.int .u8 2)
  have hX1 := hbx1.otherJ (w.heap.size + 1) 2 (by omega) (.int .u8 2)
  have HZ := Lib.hid hzz; clear hzz
  clear s0 hB hbx1
  cases packed with
  | false =>
    go_enter Try.func31, Try.ntmps31
    go_wp2_with fail
    generalize V0.setCell ⟨w.heap.size + 1, 2, none⟩ (.int .u8 2) = V1 at *
    clear d2 f2 hz1 hmk0
    have b0 := hX1.c 0 _ rfl
    have b1 := hX1.c 1 _ rfl
    have b2 := hX1.c 2 _ rfl
    have d12 := s1.c 12 _ rfl
    have d13 := s1.c 13 _ rfl
    have f12 := s1.f 12
    have f13 := s1.f 13
    go_region
    have s2 := (s1.setAt 12 (by simp) (.int .u8 ((p : Int) % 256))).setAt 13 (by simp) (.int .u8 ((p : Int) / 256))
    have hX2 := (hX1.otherJ (w.heap.size + 1) 12 (by omega) (.int .u8 ((p : Int) % 256))).otherJ (w.heap.size + 1) 13 (by omega) (.int .u8 ((p : Int) / 256))
    have hB2 := ((hB1.setCell (p := ⟨w.heap.size + 1, 12, none⟩) (by simp) (.int .u8 ((p : Int) % 256))).setCell (p := ⟨w.heap.size + 1, 13, none⟩) (by simp) (.int .u8 ((p : Int) / 256))).drew
    have s2 := s2.drewN 1
    have hX2 := hX2.drewN 1
    rw [show ∀ W : World, W.drewN 1 = W.drew from fun _ => rfl] at s2 hX2
    clear s1 hX1 hB1 b0 b1 b2 d12 d13 f12 f13
    generalize ((V1.setCell ⟨w.heap.size + 1, 12, none⟩ (.int .u8 ((p : Int) % 256))).setCell ⟨w.heap.size + 1, 13, none⟩ (.int .u8 ((p : Int) / 256))).drew = V2 at *
    have b1 := hX2.c 1 _ rfl
    have d14 := s2.c 14 _ rfl
    have d15 := s2.c 15 _ rfl
    have f14 := s2.f 14
    have f15 := s2.f 15
    go_wp2_with fail
    go_region
    have s3 := (s2.setAt 14 (by simp) (.int .u8 ((q : Int) % 256))).setAt 15 (by simp) (.int .u8 ((q : Int) / 256))
    have hX3 := (hX2.otherJ (w.heap.size + 1) 14 (by omega) (.int .u8 ((q : Int) % 256))).otherJ (w.heap.size + 1) 15 (by omega) (.int .u8 ((q : Int) / 256))
    have hB3 := ((hB2.setCell (p := ⟨w.heap.size + 1, 14, none⟩) (by simp) (.int .u8 ((q : Int) % 256))).setCell (p := ⟨w.heap.size + 1, 15, none⟩) (by simp) (.int .u8 ((q : Int) / 256))).drew
    have s3 := s3.drewN 1
    have hX3 := hX3.drewN 1
    rw [show ∀ W : World, W.drewN 1 = W.drew from fun _ => rfl] at s3 hX3
    clear s2 hX2 hB2 b1 d14 d15 f14 f15
    generalize ((V2.setCell ⟨w.heap.size + 1, 14, none⟩ (.int .u8 ((q : Int) % 256))).setCell ⟨w.heap.size + 1, 15, none⟩ (.int .u8 ((q : Int) / 256))).drew = V3 at *
    have or0 : Go.bits BinOp.or IntKind.u8 0 32 = 32 := by kernel_rfl
    have or8 : Go.bits BinOp.or IntKind.u8 8 32 = 40 := by kernel_rfl
    rcases hz with rfl | rfl
    · obtain rfl : zz = 24 := HZ.out.symm
      have b2 := hX3.c 2 _ rfl
      have d16 := s3.c 16 _ rfl
      have f16 := s3.f 16
      have s4 := s3.setAt 16 (by simp) (.int .u8 24)
      have hX4 := hX3.otherJ (w.heap.size + 1) 16 (by omega) (.int .u8 24)
      have hB4 := hB3.setCell (p := ⟨w.heap.size + 1, 16, none⟩) (by simp) (.int .u8 24)
      have e2 := hX4.c 2 _ rfl
      cases top with
      | false =>
        have kc := head_text _ _ _ s4 (headT p q 3 false false) (head_cells p q 3 24 false false h1 h2 (by decide)) rfl
        have HB := Lib.hid hB4
        clear s3 hX3 hB3 s4 hX4 hB4
        go_wp2_with fail
        exact FIN.out _ HB.out
      | true =>
        have d17 : (V3.setCell ⟨w.heap.size + 1, 16, none⟩ (.int .u8 24)).cell? ⟨w.heap.size + 1, 17, none⟩ = some (.int .u8 0) := s4.c 17 _ rfl
        have f17 := s4.f 17
        have s5 := s4.setAt 17 (by simp) (.int .u8 32)
        have hB5 := hB4.setCell (p := ⟨w.heap.size + 1, 17, none⟩) (by simp) (.int .u8 32)
        have kc := head_text _ _ _ s5 (headT p q 3 false true) (head_cells p q 3 24 false true h1 h2 (by decide)) rfl
        have HB := Lib.hid hB5
        clear s3 hX3 hB3 s4 hX4 hB4 s5 hB5
        go_wp2_with fail
        exact FIN.out _ HB.out
    · obtain rfl : zz = 32 := HZ.out.symm
      have b2 := hX3.c 2 _ rfl
      have d16 := s3.c 16 _ rfl
      have f16 := s3.f 16
      have s4 := s3.setAt 16 (by simp) (.int .u8 32)
      have hX4 := hX3.otherJ (w.heap.size + 1) 16 (by omega) (.int .u8 32)
      have hB4 := hB3.setCell (p := ⟨w.heap.size + 1, 16, none⟩) (by simp) (.int .u8 32)
      have e2 := hX4.c 2 _ rfl
      have d17 := s4.c 17 _ rfl
      have f17 := s4.f 17
      have s5 := s4.setAt 17 (by simp) (.int .u8 8)
      have hB5 := hB4.setCell (p := ⟨w.heap.size + 1, 17, none⟩) (by simp) (.int .u8 8)
      cases top with
      | false =>
        have kc := head_text _ _ _ s5 (headT p q 4 false false) (head_cells p q 4 32 false false h1 h2 (by decide)) rfl
        have HB := Lib.hid hB5
        clear s3 hX3 hB3 s4 hX4 hB4 s5 hB5
        go_wp2_with fail
        exact FIN.out _ HB.out
      | true =>
        have g17 := s5.c 17 _ rfl
        have k17 := s5.f 17
        have s6 := s5.setAt 17 (by simp) (.int .u8 40)
        have hB6 := hB5.setCell (p := ⟨w.heap.size + 1, 17, none⟩) (by simp) (.int .u8 40)
        have kc := head_text _ _ _ s6 (headT p q 4 false true) (head_cells p q 4 32 false true h1 h2 (by decide)) rfl
        have HB := Lib.hid hB6
        clear s3 hX3 hB3 s4 hX4 hB4 s5 hB5 s6 hB6
        go_wp2_with fail
        exact FIN.out _ HB.out
  | true =>
    have g2 := s1.c 2 _ rfl
    have k2 := s1.f 2
    have s2 := s1.setAt 2 (by decide) (.int .u8 10)
    have hB2 := hB1.setCell (p := ⟨w.heap.size + 1, 2, none⟩) (by simp) (.int .u8 10)
    have hX2 := hX1.otherJ (w.heap.size + 1) 2 (by omega) (.int .u8 10)
    clear s1 hB1 hX1
    go_enter Try.func31, Try.ntmps31
    go_wp2_with fail
    generalize (V0.setCell ⟨w.heap.size + 1, 2, none⟩ (.int .u8 2)).setCell ⟨w.heap.size + 1, 2, none⟩ (.int .u8 10) = V1 at *
    have s1 := s2
    have hB1 := hB2
    have hX1 := hX2
    clear s2 hB2 hX2 g2 k2
    clear d2 f2 hz1 hmk0
    have b0 := hX1.c 0 _ rfl
    have b1 := hX1.c 1 _ rfl
    have b2 := hX1.c 2 _ rfl
    have d12 := s1.c 12 _ rfl
    have d13 := s1.c 13 _ rfl
    have f12 := s1.f 12
    have f13 := s1.f 13
    go_region
    have s2 := (s1.setAt 12 (by simp) (.int .u8 ((p : Int) % 256))).setAt 13 (by simp) (.int .u8 ((p : Int) / 256))
    have hX2 := (hX1.otherJ (w.heap.size + 1) 12 (by omega) (.int .u8 ((p : Int) % 256))).otherJ (w.heap.size + 1) 13 (by omega) (.int .u8 ((p : Int) / 256))
    have hB2 := ((hB1.setCell (p := ⟨w.heap.size + 1, 12, none⟩) (by simp) (.int .u8 ((p : Int) % 256))).setCell (p := ⟨w.heap.size + 1, 13, none⟩) (by simp) (.int .u8 ((p : Int) / 256))).drew
    have s2 := s2.drewN 1
    have hX2 := hX2.drewN 1
    rw [show ∀ W : World, W.drewN 1 = W.drew from fun _ => rfl] at s2 hX2
    clear s1 hX1 hB1 b0 b1 b2 d12 d13 f12 f13
    generalize ((V1.setCell ⟨w.heap.size + 1, 12, none⟩ (.int .u8 ((p : Int) % 256))).setCell ⟨w.heap.size + 1, 13, none⟩ (.int .u8 ((p : Int) / 256))).drew = V2 at *
    have b1 := hX2.c 1 _ rfl
    have d14 := s2.c 14 _ rfl
    have d15 := s2.c 15 _ rfl
    have f14 := s2.f 14
    have f15 := s2.f 15
    go_wp2_with fail
    go_region
    have s3 := (s2.setAt 14 (by simp) (.int .u8 ((q : Int) % 256))).setAt 15 (by simp) (.int .u8 ((q : Int) / 256))
    have hX3 := (hX2.otherJ (w.heap.size + 1) 14 (by omega) (.int .u8 ((q : Int) % 256))).otherJ (w.heap.size + 1) 15 (by omega) (.int .u8 ((q : Int) / 256))
    have hB3 := ((hB2.setCell (p := ⟨w.heap.size + 1, 14, none⟩) (by simp) (.int .u8 ((q : Int) % 256))).setCell (p := ⟨w.heap.size + 1, 15, none⟩) (by simp) (.int .u8 ((q : Int) / 256))).drew
    have s3 := s3.drewN 1
    have hX3 := hX3.drewN 1
    rw [show ∀ W : World, W.drewN 1 = W.drew from fun _ => rfl] at s3 hX3
    clear s2 hX2 hB2 b1 d14 d15 f14 f15
    generalize ((V2.setCell ⟨w.heap.size + 1, 14, none⟩ (.int .u8 ((q : Int) % 256))).setCell ⟨w.heap.size + 1, 15, none⟩ (.int .u8 ((q : Int) / 256))).drew = V3 at *
    have or0 : Go.bits BinOp.or IntKind.u8 0 32 = 32 := by kernel_rfl
    have or8 : Go.bits BinOp.or IntKind.u8 8 32 = 40 := by kernel_rfl
    rcases hz with rfl | rfl
    · obtain rfl : zz = 24 := HZ.out.symm
      have b2 := hX3.c 2 _ rfl
      have d16 := s3.c 16 _ rfl
      have f16 := s3.f 16
      have s4 := s3.setAt 16 (by simp) (.int .u8 24)
      have hX4 := hX3.otherJ (w.heap.size + 1) 16 (by omega) (.int .u8 24)
      have hB4 := hB3.setCell (p := ⟨w.heap.size + 1, 16, none⟩) (by simp) (.int .u8 24)
      have e2 := hX4.c 2 _ rfl
      cases top with
      | false =>
        have kc := head_text _ _ _ s4 (headT p q 3 true false) (head_cells p q 3 24 true false h1 h2 (by decide)) rfl
        have HB := Lib.hid hB4
        clear s3 hX3 hB3 s4 hX4 hB4
        go_wp2_with fail
        exact FIN.out _ HB.out
      | true =>
        have d17 : (V3.setCell ⟨w.heap.size + 1, 16, none⟩ (.int .u8 24)).cell? ⟨w.heap.size + 1, 17, none⟩ = some (.int .u8 0) := s4.c 17 _ rfl
        have f17 := s4.f 17
        have s5 := s4.setAt 17 (by simp) (.int .u8 32)
        have hB5 := hB4.setCell (p := ⟨w.heap.size + 1, 17, none⟩) (by simp) (.int .u8 32)
        have kc := head_text _ _ _ s5 (headT p q 3 true true) (head_cells p q 3 24 true true h1 h2 (by decide)) rfl
        have HB := Lib.hid hB5
        clear s3 hX3 hB3 s4 hX4 hB4 s5 hB5
        go_wp2_with fail
        exact FIN.out _ HB.out
    · obtain rfl : zz = 32 := HZ.out.symm
      have b2 := hX3.c 2 _ rfl
      have d16 := s3.c 16 _ rfl
      have f16 := s3.f 16
      have s4 := s3.setAt 16 (by simp) (.int .u8 32)
      have hX4 := hX3.otherJ (w.heap.size + 1) 16 (by omega) (.int .u8 32)
      have hB4 := hB3.setCell (p := ⟨w.heap.size + 1, 16, none⟩) (by simp) (.int .u8 32)
      have e2 := hX4.c 2 _ rfl
      have d17 := s4.c 17 _ rfl
      have f17 := s4.f 17
      have s5 := s4.setAt 17 (by simp) (.int .u8 8)
      have hB5 := hB4.setCell (p := ⟨w.heap.size + 1, 17, none⟩) (by simp) (.int .u8 8)
      cases top with
      | false =>
        have kc := head_text _ _ _ s5 (headT p q 4 true false) (head_cells p q 4 32 true false h1 h2 (by decide)) rfl
        have HB := Lib.hid hB5
        clear s3 hX3 hB3 s4 hX4 hB4 s5 hB5
        go_wp2_with fail
        exact FIN.out _ HB.out
      | true =>
        have g17 := s5.c 17 _ rfl
        have k17 := s5.f 17
        have s6 := s5.setAt 17 (by simp) (.int .u8 40)
        have hB6 := hB5.setCell (p := ⟨w.heap.size + 1, 17, none⟩) (by simp) (.int .u8 40)
        have kc := head_text _ _ _ s6 (headT p q 4 true true) (head_cells p q 4 32 true true h1 h2 (by decide)) rfl
        have HB := Lib.hid hB6
        clear s3 hX3 hB3 s4 hX4 hB4 s5 hB5 s6 hB6
        go_wp2_with fail
        exact FIN.out _ HB.out
end Go.Proofs.Ytfkkppagbhllgaa

/-
  THE STEPS OF tga.order.
-/
set_option linter.unusedVariables false
set_option linter.unusedSimpArgs false
set_option maxRecDepth 8000
namespace Go.Proofs.Ytfkkppagbhllgaa
open Go.RowKit

theorem size_int9 : (Try.prog.info? 3).map (fun i => (i.zero, i.size, i.bytes)) = some (some (.int .i64 0), 1, 8) := by kernel_rfl
def upI (h k : Nat) : List Int := (List.range h).map fun i => if i < k then (i : Int) else 0
theorem upI_zero (h : Nat) : upI h 0 = List.replicate h 0 := by
  unfold upI
  refine List.ext_getElem? fun i => ?_
  by_cases hi : i < h
  · rw [List.getElem?_map, List.getElem?_range hi, List.getElem?_replicate, if_pos hi]; rfl
  · rw [List.getElem?_eq_none (by simp; omega), List.getElem?_eq_none (by simp; omega)]
theorem upI_set (h k : Nat) : (upI h k).set k (k : Int) = upI h (k + 1) := by
  unfold upI
  refine List.ext_getElem? fun i => ?_
  by_cases hi : i < h
  · rw [List.getElem?_set]
    simp only [List.length_map, List.length_range, List.getElem?_map, List.getElem?_range hi, Option.map_some]
    by_cases hk : k = i
    · subst hk; rw [if_pos rfl, if_pos hi, if_pos (by omega)]
    · rw [if_neg hk]
      by_cases h1 : i < k
      · rw [if_pos h1, if_pos (by omega)]
      · rw [if_neg h1, if_neg (by omega)]
  · rw [List.getElem?_eq_none (by simp; omega), List.getElem?_eq_none (by simp; omega)]
theorem upI_done (h : Nat) : upI h h = (List.range h).map fun i => ((ordT h true i : Nat) : Int) := by
  unfold upI
  refine List.map_congr_left fun i hi => ?_
  rw [if_pos (List.mem_range.1 hi)]; rfl
theorem upI_rev (h : Nat) : (upI h h).reverse = (List.range h).map fun i => ((ordT h false i : Nat) : Int) := by
  refine List.ext_getElem? fun j => ?_
  by_cases hj : j < h
  · rw [List.getElem?_reverse (by simp [upI]; exact hj)]
    simp only [upI, List.length_map, List.length_range, List.getElem?_map]
    rw [List.getElem?_range (by omega), List.getElem?_range hj]
    simp only [Option.map_some, ordT]
    rw [if_pos (by omega)]
    simp
  · rw [List.getElem?_eq_none (by simp [upI]; omega), List.getElem?_eq_none (by simp; omega)]
def ordL (h : Nat) (top : Bool) : List Int := (List.range h).map fun i => ((ordT h top i : Nat) : Int)
theorem made_ints (w : World) (n base : Nat) (hb : base ≤ w.heap.size) (hn : n ≤ maxLen) : (w.alloc (.cells (madeCells #[.int .i64 0] n) 3)).ownsRow base 3 1 (.slice (some ⟨w.heap.size, 0, none⟩) n n) n (cellsI (List.replicate n 0)) := by
  refine ⟨by simp [cellsI], .inr ⟨w.heap.size, n, madeCells #[.int .i64 0] n, rfl, hb, heap_alloc_new w _, Nat.le_refl _, hn, by simp [size_madeCells], ?_⟩⟩
  apply List.ext_getElem?
  intro j
  by_cases hj : j < n
  · rw [List.getElem?_take, if_pos (by omega), cellsI_get, List.getElem?_replicate, if_pos hj]
    simp [madeCells, hj, Nat.mod_one]
  · rw [List.getElem?_eq_none (by simp [size_madeCells]; omega), List.getElem?_eq_none (by simp [cellsI]; omega)]
set_option maxHeartbeats 800000 in
theorem order_any (h : Nat) (top : Bool) (w : World) (h1 : 1 ≤ h) (h2 : h ≤ 256) :
    Calls Try.prog 32 #[.int .i64 (h : Int), .bool top] w (LoneRes w 3 1 h (cellsI (ordL h top))) := by
  have hmk : ∀ W : World, (Instr.makeSlice 25 (.int .i64 (h : Int)) (.int .i64 (h : Int))).run Try.prog W = .ok (.slice (some ⟨W.heap.size, 0, none⟩) h h) (W.alloc (.cells (madeCells #[.int .i64 0] h) 3)) := fun W => run_make_row' (P := Try.prog) 25 3 (.int .i64 0) 8 Try.underlying25 size_int9 rfl .i64 .i64 h (by omega) (by omega) W
  have hmk0 := hmk w
  have s0 := made_ints w h w.heap.size (Nat.le_refl _) (by unfold maxLen; omega)
  have hb0 : Below w.heap.size w (w.alloc (.cells (madeCells #[.int .i64 0] h) 3)) := (Below.refl _ _).alloc (Nat.le_refl _) _
  have hz0 : w.heap.size < (w.alloc (.cells (madeCells #[.int .i64 0] h) 3)).heap.size := by simp
  generalize w.alloc (.cells (madeCells #[.int .i64 0] h) 3) = V0 at *
  rw [← upI_zero] at s0
  have HS := Lib.hid s0
  clear hmk s0
  go_enter Try.func32, Try.ntmps32
  go_wp2_with fail
  go_loopw [11] (fun i wr => ∃ k : Nat, k ≤ h ∧ i = .int .i64 (k : Int) ∧ Hid (wr.ownsRow w.heap.size 3 1 (.slice (some ⟨w.heap.size, 0, none⟩) h h) h (cellsI (upI h k))) ∧ Below w.heap.size w wr) (fun i _ => h - (intOf i).toNat)
  case atStart => exact ⟨0, by omega, rfl, HS, hb0⟩
  case round =>
    clear HS hb0 hz0 hmk0
    obtain ⟨k, hk, rfl, hrow, hbk⟩ := hrel
    by_cases hlt : k < h
    · have t0 : decide ((k : Int) < (h : Int)) = true := decide_eq_true (by omega)
      have k0 : (0 : Int) ≤ (k : Int) := by omega
      have k1 : (k : Int) < (h : Int) := by omega
      have a0 : (⟨w.heap.size, 0, none⟩ : Addr).add k = ⟨w.heap.size, k, none⟩ := addr_lit _ _
      obtain ⟨u0', hu⟩ : ∃ u, wr.cell? ⟨w.heap.size, k, none⟩ = some u := by
        have := hrow.out.cells (g := w.heap.size) rfl k _ (List.getElem?_eq_getElem (show k < (cellsI (upI h k)).length by simp [cellsI, upI]; exact hlt))
        rw [a0] at this
        exact ⟨_, this⟩
      have hf : wr.frozen? ⟨w.heap.size, k, none⟩ = false := hrow.out.frozenAt k
      obtain ⟨hs1, hs2⟩ := hrow.out.stored k (.int .i64 (k : Int))
      have HS : Hid ((wr.setCell ⟨w.heap.size, k, none⟩ (.int .i64 (k : Int))).ownsRow w.heap.size 3 1 (.slice (some ⟨w.heap.size, 0, none⟩) h h) h (cellsI (upI h (k + 1)))) := Lib.hid (by
        rw [← upI_set]
        simpa [cellsI] using hs1)
      clear hs1 hs2 hrow
      go_wp2_with fail
      go_roundw
      case rel => exact ⟨k + 1, by omega, by go_num, HS, hbk.setCell (p := ⟨w.heap.size, k, none⟩) (Nat.le_refl _) _⟩
      case measure => simp only [intOf]; omega
    · have t0 : decide ((k : Int) < (h : Int)) = false := decide_eq_false (by omega)
      have hkh : Hid (k = h) := Lib.hid (by omega)
      rw [hkh.out] at hrow
      cases top with
      | true =>
        go_wp2_with fail
        go_ret
        refine ⟨_, _, rfl, ?_, hbk⟩
        unfold ordL
        rw [← upI_done]; exact hrow.out
      | false =>
        have hR := Try.slices_Reverse_int w.heap.size 0 h (upI h h) wr (by
          obtain ⟨g, c, e1, _, _, _, _, _, hH⟩ := Lib.holds_of_ownsRow (enc := Value.int .i64) hrow.out (by simp)
          injection e1 with e1
          injection e1 with e1
          injection e1 with e1
          rw [e1]; exact hH) (by simp [upI]; omega)
        have e : (upI h h).length = h := by simp [upI]
        rw [e] at hR
        have HR := Lib.hid hR
        clear hR e
        go_wp2_with fail
        refine HR.out.mono ?_
        clear HR
        rintro e w2 ⟨rfl, q, rfl⟩
        have hF := Lib.ownsRow_putRow (q := q) (enc := Value.int .i64) (ys := (upI h h).reverse) hrow.out (by simp [upI]) (Nat.le_refl _)
        have hBF := Lib.below_putRow (q := q) (enc := Value.int .i64) (d := (upI h h).reverse.toArray) hbk (Nat.le_refl _)
        rw [List.take_of_length_le (by simp [upI]), upI_rev] at hF
        rw [upI_rev] at hBF
        rw [upI_rev]
        have HF := Lib.hid hF
        have HBF := Lib.hid hBF
        clear hF hBF
        generalize Sort.putRow (Value.int .i64) (Sort.ahead wr q) w.heap.size 0 ((List.range h).map fun i => ((ordT h false i : Nat) : Int)).toArray = V at *
        go_wp2_with fail
        go_ret
        exact ⟨_, _, rfl, HF.out, HBF.out⟩
end Go.Proofs.Ytfkkppagbhllgaa

/-
  THE STEPS OF tga.form, Is.
-/
set_option linter.unusedVariables false
set_option linter.unusedSimpArgs false
set_option maxRecDepth 8000
namespace Go.Proofs.Ytfkkppagbhllgaa
open Go.RowKit

theorem form_iff (w h b mn mx : Int) (h1 : mn = if h < w then h else w) (h2 : mx = if h > w then h else w) : formT w h b = (decide (1 ≤ mn) && decide (mx ≤ 256) && (b == 24 || b == 32)) := by
  unfold formT
  rw [Bool.eq_iff_iff]
  simp only [Bool.and_eq_true, Bool.or_eq_true, decide_eq_true_eq, beq_iff_eq]
  subst h1; subst h2
  split <;> split <;> omega
theorem form_any (p q b : Int) (A : Option Addr) (n c : Nat) (w : World) :
    Calls Try.prog 45 #[imV p q b A n c] w fun e w' => e = .returned (.bool (formT p q b)) ∧ Below w.heap.size w w' := by
  obtain ⟨mn, hmn⟩ : ∃ m, m = if q < p then q else p := ⟨_, rfl⟩
  obtain ⟨mx, hmx⟩ : ∃ m, m = if q > p then q else p := ⟨_, rfl⟩
  rw [form_iff p q b mn mx hmn hmx]
  have HMN : ∀ ts ty W, (Builtin.min_ ts ty #[.int .i64 p, .int .i64 q]).run Try.prog W = .ok (.int .i64 mn) W := fun ts ty W => by rw [run_min_int2, hmn]
  have HMX : ∀ ts ty W, (Builtin.max_ ts ty #[.int .i64 p, .int .i64 q]).run Try.prog W = .ok (.int .i64 mx) W := fun ts ty W => by rw [run_max_int2, hmx]
  clear hmn hmx
  have hbx := SlotN.new w [.int .i64 p, .int .i64 q, .int .i64 b, .slice A n c] #[.int .i64 p, .int .i64 q, .int .i64 b, .slice A n c] 24 rfl
  have hb : Below w.heap.size w (w.alloc (.cells #[.int .i64 p, .int .i64 q, .int .i64 b, .slice A n c] 24)) := (Below.refl _ _).alloc (Nat.le_refl _) _
  have c0 := hbx.c 0 _ rfl
  have c1 := hbx.c 1 _ rfl
  have c2 := hbx.c 2 _ rfl
  unfold imV
  clear hbx
  by_cases h1 : 1 ≤ mn
  · have t1 : decide (1 ≤ mn) = true := decide_eq_true h1
    rw [t1]
    by_cases h2 : mx ≤ 256
    · have t2 : decide (mx ≤ 256) = true := decide_eq_true h2
      rw [t2]
      by_cases h3 : b = 24
      · subst h3
        clear h1 h2
        go_enter Try.func45, Try.ntmps45
        go_wp2_with fail
        all_goals
          go_ret
          exact ⟨rfl, hb⟩
      · have t3 : (b == 24) = false := by simpa using h3
        rw [t3]
        by_cases h4 : b = 32
        · subst h4
          clear h1 h2 h3
          go_enter Try.func45, Try.ntmps45
          go_wp2_with fail
          all_goals
            go_ret
            exact ⟨rfl, hb⟩
        · have t4 : (b == 32) = false := by simpa using h4
          rw [t4]
          clear h1 h2 h3 h4
          go_enter Try.func45, Try.ntmps45
          go_wp2_with fail
          all_goals
            go_ret
            exact ⟨rfl, hb⟩
    · have t2 : decide (mx ≤ 256) = false := decide_eq_false h2
      rw [t2]
      clear h1 h2
      go_enter Try.func45, Try.ntmps45
      go_wp2_with fail
      all_goals
        go_ret
        exact ⟨rfl, hb⟩
  · have t1 : decide (1 ≤ mn) = false := decide_eq_false h1
    rw [t1]
    clear h1
    go_enter Try.func45, Try.ntmps45
    go_wp2_with fail
    all_goals
      go_ret
      exact ⟨rfl, hb⟩
theorem mul_bd {p q z : Nat} (h1 : p ≤ 256) (h2 : q ≤ 256) (hz : z ≤ 4) : p * q ≤ 65536 ∧ p * q * (8 * z) ≤ 2097152 := by
  have a : p * q ≤ 256 * 256 := Nat.mul_le_mul h1 h2
  have b : p * q * (8 * z) ≤ 65536 * 32 := Nat.mul_le_mul a (by omega)
  omega
theorem is_any (p q b : Int) (A : Option Addr) (n c : Nat) (w : World) (hn : n ≤ 9223372036854775807) :
    Calls Try.prog 22 #[imV p q b A n c] w fun e w' => e = .returned (.bool (isT p q b n)) ∧ Below w.heap.size w w' := by
  have KF := Lib.hid (fun W => form_any p q b A n c W)
  have hbx := SlotN.new w [.int .i64 p, .int .i64 q, .int .i64 b, .slice A n c] #[.int .i64 p, .int .i64 q, .int .i64 b, .slice A n c] 24 rfl
  have hb : Below w.heap.size w (w.alloc (.cells #[.int .i64 p, .int .i64 q, .int .i64 b, .slice A n c] 24)) := (Below.refl _ _).alloc (Nat.le_refl _) _
  have c0 := hbx.c 0 _ rfl
  have c1 := hbx.c 1 _ rfl
  have c2 := hbx.c 2 _ rfl
  have c3 := hbx.c 3 _ rfl
  have hz1 : w.heap.size < (w.alloc (.cells #[.int .i64 p, .int .i64 q, .int .i64 b, .slice A n c] 24)).heap.size := by simp
  unfold imV at *
  cases hf : formT p q b with
  | false =>
    have e : isT p q b n = false := by unfold isT; rw [hf]; rfl
    rw [e]
    rw [hf] at KF
    clear e hf
    go_enter Try.func22, Try.ntmps22
    go_wp2_with fail
    refine (KF.out _).mono ?_
    clear KF
    rintro e w1 ⟨rfl, hb1⟩
    have HB := Lib.hid (hb.trans (hb1.mono hb.size))
    clear hb1 c0 c1 c2 c3
    go_wp2_with fail
    all_goals
      go_ret
      exact ⟨rfl, HB.out⟩
  | true =>
    rw [hf] at KF
    have hf2 := hf
    unfold formT at hf2
    rw [decide_eq_true_iff] at hf2
    obtain ⟨g1, g2, g3, g4, g5⟩ := hf2
    obtain ⟨p, rfl⟩ : ∃ k : Nat, p = k := ⟨p.toNat, by omega⟩
    obtain ⟨q, rfl⟩ : ∃ k : Nat, q = k := ⟨q.toNat, by omega⟩
    obtain ⟨z, hz, rfl⟩ : ∃ k : Nat, (k = 3 ∨ k = 4) ∧ b = ((8 * k : Nat) : Int) := by
      rcases g5 with rfl | rfl
      · exact ⟨3, .inl rfl, rfl⟩
      · exact ⟨4, .inr rfl, rfl⟩
    have hbd := mul_bd (p := p) (q := q) (z := z) (by omega) (by omega) (by omega)
    have e : isT p q ((8 * z : Nat) : Int) n = decide ((n : Int) = ((p * q * z : Nat) : Int)) := by
      unfold isT
      rw [hf, Bool.true_and]
      have : (((8 * z : Nat) : Int)) / 8 = (z : Int) := by omega
      rw [this]; simp
    rw [e]
    have em : (p : Int) * (q : Int) = ((p * q : Nat) : Int) := by simp
    have em2 : ((p * q : Nat) : Int) * ((8 * z : Nat) : Int) = ((p * q * (8 * z) : Nat) : Int) := by simp
    have td : ((p * q * (8 * z) : Nat) : Int).tdiv 8 = ((p * q * z : Nat) : Int) := by
      rw [Int.tdiv_eq_ediv_of_nonneg (by omega)]
      have : p * q * (8 * z) = 8 * (p * q * z) := by rw [Nat.mul_left_comm]
      rw [this]; omega
    have e9 : decide ((n : Int) = ((p * q * z : Nat) : Int)) = ((n : Int) == ((p * q * z : Nat) : Int)) := by rw [Bool.eq_iff_iff]; simp
    rw [e9]
    obtain ⟨X, hX⟩ : ∃ X : Nat, X = p * q := ⟨_, rfl⟩
    obtain ⟨Y, hY⟩ : ∃ Y : Nat, Y = p * q * (8 * z) := ⟨_, rfl⟩
    obtain ⟨T, hT⟩ : ∃ T : Nat, T = p * q * z := ⟨_, rfl⟩
    rw [← hX] at em em2
    rw [← hY] at td hbd
    rw [hX, ← hY, ← hX] at em2
    rw [← hT] at td
    rw [← hX] at hbd
    rw [← hT]
    have hT2 : T ≤ Y := by rw [hT, hY]; exact Nat.mul_le_mul_left _ (by omega)
    obtain ⟨hbd1, hbd2⟩ := hbd
    clear e e9 hf hX hY hT hz g5
    generalize ((8 * z : Nat) : Int) = zz at *
    go_enter Try.func22, Try.ntmps22
    go_wp2_with fail
    refine (KF.out _).mono ?_
    clear KF
    rintro e w1 ⟨rfl, hb1⟩
    have HB := Lib.hid (hb.trans (hb1.mono hb.size))
    have hs := hbx.below hb1 (by omega)
    clear c0 c1 c2 c3
    have c0 := hs.c 0 _ rfl
    have c1 := hs.c 1 _ rfl
    have c2 := hs.c 2 _ rfl
    have c3 := hs.c 3 _ rfl
    clear hb1 hs hbx
    go_wp2_with fail
    go_ret
    exact ⟨rfl, HB.out⟩
end Go.Proofs.Ytfkkppagbhllgaa
