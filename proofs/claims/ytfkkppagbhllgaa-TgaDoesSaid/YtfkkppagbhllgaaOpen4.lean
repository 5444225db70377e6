/-
  READING ARGUMENTS, MORE: a struct of three ints and a slice of bytes. Nothing of the program is named here but the image's value.
-/
import Derived.Test.YtfkkppagbhllgaaOpen
import Derived.Test.YtfkkppagbhllgaaTgaWalkL
set_option linter.unusedVariables false
set_option linter.unusedSimpArgs false
namespace Go.Proofs.Ytfkkppagbhllgaa
open Go.ChangeShapes Go.WideShapes Go.ChangeAt Go.RowKit Go.Deep

section
variable {H : Type} {enc : TypeId × Value → H} {P : Program} {w : World}
theorem u8_cells (zs : List Int) (h : ∀ x ∈ zs, 0 ≤ x ∧ x ≤ 255) : ∃ l : List UInt8, l.length = zs.length ∧ ∀ (i : Nat) (x : Int), zs[i]? = some x → ∃ b : UInt8, l[i]? = some b ∧ (b.toNat : Int) = x := by
  refine ⟨zs.map fun x => UInt8.ofNat x.toNat, by simp, fun i x hx => ⟨UInt8.ofNat x.toNat, by simp [hx], ?_⟩⟩
  have := h x (List.mem_of_getElem? hx)
  rw [u8_of _ (by omega)]; omega
theorem read_bytes {t e : TypeId} {A0 : Option Addr} {n0 c0 : Nat} {fuel : Nat} {x : DataW H × List MemPlace} (ht : P.underlying t = some (.slice e)) (he : P.underlying e = some (.int .u8)) (hc : P.cellsOf e = 1)
    (hf : DataW.trod enc P w 0 (fun _ => true) true fuel t [.slice A0 n0 c0] = some x) :
    n0 ≤ c0 ∧ c0 ≤ maxLen ∧ ∃ l, Byts w w.heap.size A0 n0 l := by
  rcases open_ints ht he hc hf with ⟨hcs, _⟩ | ⟨a, len', cap', zs, hcs, _, hl, hm, hz, _, hcell, hwz⟩
  · simp at hcs
    obtain ⟨rfl, rfl, rfl⟩ := hcs
    exact ⟨Nat.le_refl _, Nat.zero_le _, [], ⟨Rd.nil, by omega⟩⟩
  · simp at hcs
    obtain ⟨rfl, rfl, rfl⟩ := hcs
    simp only [if_true] at hz
    obtain ⟨l, hll, hlx⟩ := u8_cells zs (fun x hx => bounds_u8 (hwz x hx))
    refine ⟨hl, hm, l.take n0, ⟨⟨by rw [bytes_len]; simp; omega, fun hn => ⟨a, rfl, ?_, fun j u hu => ?_⟩⟩, by unfold maxLen at hm; omega⟩⟩
    · have := World.block_lt_of_cell? w _ (hcell 0 (by omega))
      rwa [show a.add 0 = a from rfl] at this
    · have hj : j < n0 := by
        have := (List.getElem?_eq_some_iff.1 hu).1
        rw [bytes_len] at this; simp at this; omega
      rw [hcell j (by omega), ← hu]
      have hzj : zs[j]? = some (zs[j]'(by omega)) := List.getElem?_eq_getElem (by omega)
      obtain ⟨b, hb, e⟩ := hlx j _ hzj
      unfold Lib.byteCells
      rw [List.getElem?_map, List.getElem?_take, if_pos hj, hb, List.getD_eq_getElem?_getD, hzj]
      simp only [Option.map_some, Option.getD_some, e]
theorem read_image {r : Reach} {b0 : Nat} {t te : TypeId} {fs : Array Field} {f0 f1 f2 f3 : Field} {v : Value} {d : DataW H} {p : List MemPlace} (ht : P.underlying t = some (.struct fs)) (hfs : fs = #[f0, f1, f2, f3])
    (hone : oneCellFields P fs = true) (hC : P.cellsOf t = fs.size) (h0 : P.underlying f0.type = some (.int .i64)) (h1 : P.underlying f1.type = some (.int .i64)) (h2 : P.underlying f2.type = some (.int .i64))
    (h3 : P.underlying f3.type = some (.slice te)) (he : P.underlying te = some (.int .u8)) (hce : P.cellsOf te = 1)
    (hv : Value.okWide P w r b0 t v) (h : DataW.Trod enc P w 0 (fun _ => true) true t v d p) :
    ∃ a b c A n k l, v = imV a b c A n k ∧ i64b a ∧ i64b b ∧ i64b c ∧ n ≤ k ∧ k ≤ maxLen ∧ Byts w w.heap.size A n l := by
  obtain ⟨cs, rfl, hsz⟩ := okWide_struct ht hv
  obtain ⟨fuel, hf⟩ := h
  rw [hC] at hsz
  subst hfs
  have hsz4 : cs.size = 4 := hsz
  obtain ⟨ys, n', hn', hy, hlen, hyl, hfd⟩ := DataW.trod_struct ht hf
  have g : ∀ (j : Nat) (f : Field), (#[f0, f1, f2, f3] : Array Field)[j]? = some f → ∃ y, DataW.trod enc P w 0 (fun _ => true) true n' f.type [cs[j]?.getD (.int .i64 0)] = some y := fun j f hfj => by
    have hj : j < 4 := (Array.getElem?_eq_some_iff.1 hfj).1
    obtain ⟨ho, hk⟩ := hone_of hone j _ hfj
    have h1 := hfd j _ hfj
    rw [ho, hk] at h1
    have hlt : j < (Value.agg cs).cells.toList.length := by simp [Value.cells]; omega
    have hone' : ((Value.agg cs).cells.toList.drop j).take 1 = [(Value.agg cs).cells.toList[j]'hlt] := by
      rw [List.drop_eq_getElem_cons hlt]
      rfl
    rw [hone'] at h1
    have hyl4 : ys.length = 4 := hyl
    have hys : ys[j]? = some (ys[j]'(by omega)) := List.getElem?_eq_getElem (by omega)
    rw [Array.getElem?_eq_getElem (by omega)]
    exact ⟨_, h1.trans hys⟩
  obtain ⟨L⟩ := cs
  match L, hsz4 with
  | [c0, c1, c2, c3], _ =>
    obtain ⟨y0, g0⟩ := g 0 f0 rfl
    obtain ⟨y1, g1⟩ := g 1 f1 rfl
    obtain ⟨y2, g2⟩ := g 2 f2 rfl
    obtain ⟨y3, g3⟩ := g 3 f3 rfl
    obtain ⟨a, e0, _, b0'⟩ := DataW.trod_int h0 g0
    obtain ⟨b, e1, _, b1'⟩ := DataW.trod_int h1 g1
    obtain ⟨c, e2, _, b2'⟩ := DataW.trod_int h2 g2
    simp at e0 e1 e2 g3
    have h4 : ∃ A n k, c3 = .slice A n k := by
      rcases open_slice h3 g3 with ⟨hcs, _⟩ | ⟨a, len, cap, m, n, D, Pl, hcs, _⟩
      · exact ⟨none, 0, 0, by simpa using hcs⟩
      · exact ⟨some a, len, cap, by simpa using hcs⟩
    obtain ⟨A, n, k, rfl⟩ := h4
    obtain ⟨q1, q2, l, q3⟩ := read_bytes h3 he hce g3
    exact ⟨a, b, c, A, n, k, l, by rw [e0, e1, e2]; rfl, bounds_i64 b0', bounds_i64 b1', bounds_i64 b2', q1, q2, q3⟩
end
end Go.Proofs.Ytfkkppagbhllgaa
