/-
  READING ARGUMENTS: slices of ints, of points and of rectangles, structs by value. Nothing of the program is named here.
-/
import Derived.Test.YtkdffcoofijhkaaDoorGeo
import Derived.ProofKit
import Derived.OpenShut
import Derived.Deep.Slices
import Derived.Deep.Fields
import Derived.Lib.SmallJoins
import Derived.ChangeSame
set_option linter.unusedVariables false
set_option linter.unusedSimpArgs false
namespace Go.Proofs.YtkdffcoofijhkaaDoor
open Go.ChangeShapes Go.WideShapes Go.ChangeAt Go.RowKit Go.Deep

def intFields (P : Program) (fs : Array Field) : Bool := fs.toList.all fun f => match P.underlying f.type with | some (.int .i64) => true | _ => false
theorem intFields_get {P : Program} {fs : Array Field} (h : intFields P fs = true) {j : Nat} {f : Field} (hj : fs[j]? = some f) : P.underlying f.type = some (.int .i64) := by
  have h1 := List.all_eq_true.1 h f (List.mem_of_getElem? (i := j) (by simpa using hj))
  revert h1
  cases P.underlying f.type with
  | none => intro h1; cases h1
  | some d =>
    cases d with
    | int k => cases k <;> intro h1 <;> first | rfl | cases h1
    | _ => intro h1; cases h1

section
variable {H : Type} {enc : TypeId × Value → H} {P : Program} {w : World}

theorem read_ints {r : Reach} {b0 : Nat} {t e : TypeId} {v : Value} {d : DataW H} {p : List MemPlace} (ht : P.underlying t = some (.slice e)) (he : P.underlying e = some (.int .i64)) (hc : P.cellsOf e = 1)
    (hv : Value.okWide P w r b0 t v) (h : DataW.Trod enc P w 0 (fun _ => true) true t v d p) :
    ∃ A n c xs, v = .slice A n c ∧ n ≤ c ∧ c ≤ maxLen ∧ Ints w w.heap.size A n xs := by
  obtain ⟨a0, len, cap, rfl⟩ := okWide_slice ht hv
  obtain ⟨fuel, hf⟩ := h
  rcases open_ints ht he hc hf with ⟨hcs, _⟩ | ⟨a, len', cap', zs, hcs, _, hl, hm, hz, _, hcell, hwz⟩
  · simp [Value.cells] at hcs
    obtain ⟨rfl, rfl, rfl⟩ := hcs
    exact ⟨none, 0, 0, [], rfl, Nat.le_refl _, Nat.zero_le _, Rd.nil, fun x hx => by simp at hx, by omega⟩
  · simp [Value.cells] at hcs
    obtain ⟨rfl, rfl, rfl⟩ := hcs
    simp only [if_true] at hz
    unfold maxLen at hm
    refine ⟨some a, len, cap, zs.take len, rfl, hl, by unfold maxLen; omega, ⟨by simp [cellsI]; omega, fun hn => ⟨a, rfl, ?_, fun j u hu => ?_⟩⟩, fun x hx => bounds_i64 (hwz x (List.mem_of_mem_take hx)), by omega⟩
    · have := World.block_lt_of_cell? w _ (hcell 0 (by omega))
      rwa [show a.add 0 = a from rfl] at this
    · have hj : j < len := by
        have := (List.getElem?_eq_some_iff.1 hu).1
        simp [cellsI] at this; omega
      rw [hcell j (by omega), ← hu, cellsI_get, List.getElem?_take, if_pos hj, List.getElem?_eq_getElem (by omega)]
      simp [List.getD_eq_getElem?_getD, List.getElem?_eq_getElem (show j < zs.length by omega)]

/-- A slice of structs of ints, cell by cell. -/
theorem read_structs {r : Reach} {b0 : Nat} {t e : TypeId} {fs : Array Field} {v : Value} {d : DataW H} {p : List MemPlace} (ht : P.underlying t = some (.slice e)) (he : P.underlying e = some (.struct fs))
    (hone : oneCellFields P fs = true) (hC : P.cellsOf e = fs.size) (hint : intFields P fs = true)
    (hv : Value.okWide P w r b0 t v) (h : DataW.Trod enc P w 0 (fun _ => true) true t v d p) :
    (v = .slice none 0 0) ∨ ∃ (a : Addr) (n c : Nat), v = .slice (some a) n c ∧ n ≤ c ∧ c ≤ maxLen ∧ ∀ i, i < c → ∀ j, j < fs.size → ∃ x : Int, w.cell? (a.add (i * fs.size + j)) = some (.int .i64 x) ∧ -9223372036854775808 ≤ x ∧ x ≤ 9223372036854775807 := by
  obtain ⟨a0, len, cap, rfl⟩ := okWide_slice ht hv
  obtain ⟨fuel, hf⟩ := h
  rcases open_slice ht hf with ⟨hcs, _⟩ | ⟨a, len', cap', m, n, D, Pl, hcs, hb, hl, hm, hmm, hx, hi⟩
  · simp [Value.cells] at hcs
    obtain ⟨rfl, rfl, rfl⟩ := hcs
    exact .inl rfl
  · simp [Value.cells] at hcs
    obtain ⟨rfl, rfl, rfl⟩ := hcs
    simp only [if_true] at hmm
    subst hmm
    refine .inr ⟨a, len, m, rfl, hl, hm, fun i him j hj => ?_⟩
    obtain ⟨cs', hc, ht'⟩ := hi i him
    rw [hC] at hc
    obtain ⟨ys, n', hn', hy, hlen, hyl, hfd⟩ := DataW.trod_struct he ht'
    obtain ⟨_, hcl, hat⟩ := World.cells?_some hc
    have hfj : fs[j]? = some (fs[j]) := Array.getElem?_eq_getElem hj
    obtain ⟨ho, hk⟩ := hone_of hone j _ hfj
    have h1 := hfd j _ hfj
    rw [ho, hk] at h1
    have hone' : (cs'.drop j).take 1 = [cs'[j]'(by omega)] := by
      rw [List.drop_eq_getElem_cons (by omega)]
      rfl
    rw [hone'] at h1
    have hys : ys[j]? = some (ys[j]'(by omega)) := List.getElem?_eq_getElem (by omega)
    obtain ⟨x, e1, _, e3⟩ := DataW.trod_int (intFields_get hint hfj) (h1.trans hys)
    injection e1 with e1
    refine ⟨x, ?_, bounds_i64 e3⟩
    rw [← Go.Deep.add_add, hat j hj, List.getElem?_eq_getElem (by omega), e1]
end

/-- a list by its places -/
theorem list_of {α : Type} (n : Nat) (f : Nat → α → Prop) (h : ∀ i, i < n → ∃ x, f i x) : ∃ l : List α, l.length = n ∧ ∀ i x, l[i]? = some x → f i x := by
  induction n with
  | zero => exact ⟨[], rfl, fun i x hx => by simp at hx⟩
  | succ n ih =>
    obtain ⟨l, hl, hf⟩ := ih (fun i hi => h i (by omega))
    obtain ⟨x, hx⟩ := h n (by omega)
    refine ⟨l ++ [x], by simp [hl], fun i y hy => ?_⟩
    rcases Nat.lt_or_ge i l.length with hi | hi
    · rw [List.getElem?_append_left hi] at hy; exact hf i y hy
    · have hi' : i = n := by
        have := (List.getElem?_eq_some_iff.1 hy).1
        simp at this; omega
      subst hi'
      rw [List.getElem?_append_right hi] at hy
      simp [hl] at hy
      subst hy; exact hx

section
variable {H : Type} {enc : TypeId × Value → H} {P : Program} {w : World}
theorem read_pts {r : Reach} {b0 : Nat} {t e : TypeId} {fs : Array Field} {v : Value} {d : DataW H} {p : List MemPlace} (ht : P.underlying t = some (.slice e)) (he : P.underlying e = some (.struct fs))
    (hone : oneCellFields P fs = true) (hC : P.cellsOf e = fs.size) (h2 : fs.size = 2) (hint : intFields P fs = true)
    (hv : Value.okWide P w r b0 t v) (h : DataW.Trod enc P w 0 (fun _ => true) true t v d p) :
    ∃ A n c l, v = .slice A n c ∧ n ≤ c ∧ c ≤ maxLen ∧ Pts w w.heap.size A n l := by
  rcases read_structs ht he hone hC hint hv h with rfl | ⟨a, n, c, rfl, hn, hc, hcell⟩
  · exact ⟨none, 0, 0, [], rfl, Nat.le_refl _, Nat.zero_le _, Rd.nil, fun x hx => by simp at hx, by omega⟩
  · rw [h2] at hcell
    obtain ⟨l, hl, hf⟩ := list_of n (fun i (p : Pt) => w.cell? (a.add (i * 2 + 0)) = some (.int .i64 p.x) ∧ w.cell? (a.add (i * 2 + 1)) = some (.int .i64 p.y) ∧ p.b) (fun i hi => by
      obtain ⟨x, hx, bx⟩ := hcell i (by omega) 0 (by omega)
      obtain ⟨y, hy, by'⟩ := hcell i (by omega) 1 (by omega)
      exact ⟨⟨x, y⟩, hx, hy, bx, by'⟩)
    refine ⟨some a, n, c, l, rfl, hn, hc, ⟨by rw [cellsP_length, hl], fun h0 => ⟨a, rfl, ?_, fun j u hu => ?_⟩⟩, fun p hp => ?_, by unfold maxLen at hc; omega⟩
    · obtain ⟨x, hx, _⟩ := hcell 0 (by omega) 0 (by omega)
      exact World.block_lt_of_cell? w _ hx
    · have hj : j < n * 2 := by
        have := (List.getElem?_eq_some_iff.1 hu).1
        rw [cellsP_length] at this; omega
      have e1 : j = j / 2 * 2 + j % 2 := by omega
      rw [e1] at hu ⊢
      rw [cellsP, flat_get cells2 2 (fun _ => rfl) l _ _ (by omega)] at hu
      have hx : l[j / 2]? = some (l[j / 2]'(by omega)) := List.getElem?_eq_getElem (by omega)
      rw [hx] at hu
      obtain ⟨f1, f2, _⟩ := hf _ _ hx
      rcases (show j % 2 = 0 ∨ j % 2 = 1 by omega) with h | h <;> rw [h] at hu ⊢ <;> simp [cells2] at hu <;> subst hu
      · exact f1
      · exact f2
    · obtain ⟨i, hi, he⟩ := List.getElem_of_mem hp
      exact (hf i p (by rw [List.getElem?_eq_getElem hi, he])).2.2
theorem read_rects {r : Reach} {b0 : Nat} {t e : TypeId} {fs : Array Field} {v : Value} {d : DataW H} {p : List MemPlace} (ht : P.underlying t = some (.slice e)) (he : P.underlying e = some (.struct fs))
    (hone : oneCellFields P fs = true) (hC : P.cellsOf e = fs.size) (h4 : fs.size = 4) (hint : intFields P fs = true)
    (hv : Value.okWide P w r b0 t v) (h : DataW.Trod enc P w 0 (fun _ => true) true t v d p) :
    ∃ A n c l, v = .slice A n c ∧ n ≤ c ∧ c ≤ maxLen ∧ Rects w w.heap.size A n l := by
  rcases read_structs ht he hone hC hint hv h with rfl | ⟨a, n, c, rfl, hn, hc, hcell⟩
  · exact ⟨none, 0, 0, [], rfl, Nat.le_refl _, Nat.zero_le _, Rd.nil, fun x hx => by simp at hx, by omega⟩
  · rw [h4] at hcell
    obtain ⟨l, hl, hf⟩ := list_of n (fun i (p : Rc) => w.cell? (a.add (i * 4 + 0)) = some (.int .i64 p.x) ∧ w.cell? (a.add (i * 4 + 1)) = some (.int .i64 p.y) ∧ w.cell? (a.add (i * 4 + 2)) = some (.int .i64 p.w) ∧ w.cell? (a.add (i * 4 + 3)) = some (.int .i64 p.h) ∧ p.b) (fun i hi => by
      obtain ⟨x, hx, bx⟩ := hcell i (by omega) 0 (by omega)
      obtain ⟨y, hy, by'⟩ := hcell i (by omega) 1 (by omega)
      obtain ⟨z, hz, bz⟩ := hcell i (by omega) 2 (by omega)
      obtain ⟨q, hq, bq⟩ := hcell i (by omega) 3 (by omega)
      exact ⟨⟨x, y, z, q⟩, hx, hy, hz, hq, bx, by', bz, bq⟩)
    refine ⟨some a, n, c, l, rfl, hn, hc, ⟨by rw [cellsR_length, hl], fun h0 => ⟨a, rfl, ?_, fun j u hu => ?_⟩⟩, fun p hp => ?_, by unfold maxLen at hc; omega⟩
    · obtain ⟨x, hx, _⟩ := hcell 0 (by omega) 0 (by omega)
      exact World.block_lt_of_cell? w _ hx
    · have hj : j < n * 4 := by
        have := (List.getElem?_eq_some_iff.1 hu).1
        rw [cellsR_length] at this; omega
      have e1 : j = j / 4 * 4 + j % 4 := by omega
      rw [e1] at hu ⊢
      rw [cellsR, flat_get cells4 4 (fun _ => rfl) l _ _ (by omega)] at hu
      have hx : l[j / 4]? = some (l[j / 4]'(by omega)) := List.getElem?_eq_getElem (by omega)
      rw [hx] at hu
      obtain ⟨f1, f2, f3, f4, _⟩ := hf _ _ hx
      rcases (show j % 4 = 0 ∨ j % 4 = 1 ∨ j % 4 = 2 ∨ j % 4 = 3 by omega) with h | h | h | h <;> rw [h] at hu ⊢ <;> simp [cells4] at hu <;> subst hu
      · exact f1
      · exact f2
      · exact f3
      · exact f4
    · obtain ⟨i, hi, he⟩ := List.getElem_of_mem hp
      exact (hf i p (by rw [List.getElem?_eq_getElem hi, he])).2.2.2.2

theorem read_int {r : Reach} {b0 : Nat} {t : TypeId} {v : Value} {d : DataW H} {p : List MemPlace} (ht : P.underlying t = some (.int .i64)) (hv : Value.okWide P w r b0 t v) (h : DataW.Trod enc P w 0 (fun _ => true) true t v d p) :
    ∃ x : Int, v = .int .i64 x ∧ -9223372036854775808 ≤ x ∧ x ≤ 9223372036854775807 := by
  obtain ⟨x, rfl, _, _, wx⟩ := open_int ht hv h
  exact ⟨x, rfl, bounds_i64 wx⟩
/-- A struct of ints by value. -/
theorem read_agg {r : Reach} {b0 : Nat} {t : TypeId} {fs : Array Field} {v : Value} {d : DataW H} {p : List MemPlace} (ht : P.underlying t = some (.struct fs))
    (hone : oneCellFields P fs = true) (hC : P.cellsOf t = fs.size) (hint : intFields P fs = true) (hv : Value.okWide P w r b0 t v) (h : DataW.Trod enc P w 0 (fun _ => true) true t v d p) :
    ∃ cs : Array Value, v = .agg cs ∧ cs.size = fs.size ∧ ∀ j, j < fs.size → ∃ x : Int, cs[j]? = some (.int .i64 x) ∧ -9223372036854775808 ≤ x ∧ x ≤ 9223372036854775807 := by
  obtain ⟨cs, rfl, hsz⟩ := okWide_struct ht hv
  obtain ⟨fuel, hf⟩ := h
  rw [hC] at hsz
  refine ⟨cs, rfl, hsz, fun j hj => ?_⟩
  obtain ⟨ys, n', hn', hy, hlen, hyl, hfd⟩ := DataW.trod_struct ht hf
  have hfj : fs[j]? = some (fs[j]) := Array.getElem?_eq_getElem hj
  obtain ⟨ho, hk⟩ := hone_of hone j _ hfj
  have h1 := hfd j _ hfj
  rw [ho, hk] at h1
  have hcl : (Value.agg cs).cells.size = cs.size := by simp [Value.cells]
  have hlt : j < (Value.agg cs).cells.toList.length := by simp [Value.cells]; omega
  have hone' : ((Value.agg cs).cells.toList.drop j).take 1 = [(Value.agg cs).cells.toList[j]'hlt] := by
    rw [List.drop_eq_getElem_cons hlt]
    rfl
  rw [hone'] at h1
  have hys : ys[j]? = some (ys[j]'(by omega)) := List.getElem?_eq_getElem (by omega)
  obtain ⟨x, e1, _, e3⟩ := DataW.trod_int (intFields_get hint hfj) (h1.trans hys)
  injection e1 with e1
  refine ⟨x, ?_, bounds_i64 e3⟩
  rw [← e1, Array.getElem?_eq_getElem (by omega)]
  simp [Value.cells]
theorem read_v2 {r : Reach} {b0 : Nat} {t : TypeId} {fs : Array Field} {v : Value} {d : DataW H} {p : List MemPlace} (ht : P.underlying t = some (.struct fs))
    (hone : oneCellFields P fs = true) (hC : P.cellsOf t = fs.size) (h2 : fs.size = 2) (hint : intFields P fs = true) (hv : Value.okWide P w r b0 t v) (h : DataW.Trod enc P w 0 (fun _ => true) true t v d p) :
    ∃ a : Pt, v = ptV a ∧ a.b := by
  obtain ⟨cs, rfl, hs, hj⟩ := read_agg ht hone hC hint hv h
  rw [h2] at hs hj
  obtain ⟨x, hx, bx⟩ := hj 0 (by omega)
  obtain ⟨y, hy, by'⟩ := hj 1 (by omega)
  refine ⟨⟨x, y⟩, ?_, bx, by'⟩
  obtain ⟨l⟩ := cs
  match l, hs with
  | [c0, c1], _ =>
    simp at hx hy
    simp [ptV, hx, hy]
theorem read_rect {r : Reach} {b0 : Nat} {t : TypeId} {fs : Array Field} {v : Value} {d : DataW H} {p : List MemPlace} (ht : P.underlying t = some (.struct fs))
    (hone : oneCellFields P fs = true) (hC : P.cellsOf t = fs.size) (h4 : fs.size = 4) (hint : intFields P fs = true) (hv : Value.okWide P w r b0 t v) (h : DataW.Trod enc P w 0 (fun _ => true) true t v d p) :
    ∃ a : Rc, v = rcV a ∧ a.b := by
  obtain ⟨cs, rfl, hs, hj⟩ := read_agg ht hone hC hint hv h
  rw [h4] at hs hj
  obtain ⟨x, hx, bx⟩ := hj 0 (by omega)
  obtain ⟨y, hy, by'⟩ := hj 1 (by omega)
  obtain ⟨z, hz, bz⟩ := hj 2 (by omega)
  obtain ⟨q, hq, bq⟩ := hj 3 (by omega)
  refine ⟨⟨x, y, z, q⟩, ?_, bx, by', bz, bq⟩
  obtain ⟨l⟩ := cs
  match l, hs with
  | [c0, c1, c2, c3], _ =>
    simp at hx hy hz hq
    simp [rcV, hx, hy, hz, hq]
end
end Go.Proofs.YtkdffcoofijhkaaDoor
