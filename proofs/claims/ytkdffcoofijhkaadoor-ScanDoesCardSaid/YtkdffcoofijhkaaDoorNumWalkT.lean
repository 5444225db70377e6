/-
  THE STEPS OF limewashref01.Times.
-/
import Derived.Test.YtkdffcoofijhkaaDoorNumT
import Derived.Test.YtkdffcoofijhkaaDoorNumWalkC
set_option linter.unusedVariables false
set_option linter.unusedSimpArgs false
set_option maxRecDepth 8000
namespace Go.Proofs.YtkdffcoofijhkaaDoor
open Go.RowKit

/-- a row that has just been made: noughts -/
theorem made_row (w : World) (n : Nat) (base : Nat) (hb : base ≤ w.heap.size) (hn : n ≤ maxLen) : (w.alloc (.cells (madeCells #[.int .i64 0] n) 3)).ownsRow base 3 1 (.slice (some ⟨w.heap.size, 0, none⟩) n n) n (cellsI (List.replicate n 0)) := by
  refine ⟨by simp [cellsI], .inr ⟨w.heap.size, n, madeCells #[.int .i64 0] n, rfl, hb, heap_alloc_new w _, Nat.le_refl _, hn, by simp [size_madeCells], ?_⟩⟩
  apply List.ext_getElem?
  intro j
  by_cases hj : j < n
  · rw [List.getElem?_take, if_pos (by omega), cellsI_get, List.getElem?_replicate, if_pos hj]
    simp [madeCells, hj, Nat.mod_one]
  · rw [List.getElem?_eq_none (by simp [size_madeCells]; omega), List.getElem?_eq_none (by simp [cellsI]; omega)]

theorem Three.set {w W : World} {a1 b1 a2 b2 a3 b3 : Value} (h : Three w W a1 b1 a2 b2 a3 b3) (p : Addr) (u : Value) (hp : w.heap.size + 3 ≤ p.block) : Three w (W.setCell p u) a1 b1 a2 b2 a3 b3 := by
  have hb : Below (w.heap.size + 3) W (W.setCell p u) := (Below.refl _ _).setCell hp u
  exact ⟨h.s1.below hb (by omega), h.s2.below hb (by omega), h.s3.below hb (by omega), h.below.trans (hb.mono (by omega)), by have := h.size; simpa using this⟩
theorem Three.drew {w W : World} {a1 b1 a2 b2 a3 b3 : Value} (h : Three w W a1 b1 a2 b2 a3 b3) : Three w W.drew a1 b1 a2 b2 a3 b3 :=
  ⟨⟨h.s1.c0, h.s1.c1, h.s1.f0, h.s1.f1⟩, ⟨h.s2.c0, h.s2.c1, h.s2.f0, h.s2.f1⟩, ⟨h.s3.c0, h.s3.c1, h.s3.f0, h.s3.f1⟩, h.below.drew, h.size⟩

set_option maxHeartbeats 3200000 in
theorem times_any (B1 B2 : Nat) (A1 A2 : Option Addr) (n1 c1 n2 c2 : Nat) (x y : Int) (w : World) (h1 : NumAt w B1 A1 n1 c1 x) (h2 : NumAt w B2 A2 n2 c2 y) (hB1 : B1 ≤ w.heap.size) (hB2 : B2 ≤ w.heap.size) (hl1 : n1 ≤ 1000) (hl2 : n2 ≤ 1000) :
    Calls Tryd.prog 49 #[.agg #[.bool (decide (x < 0)), .slice A1 n1 c1], .agg #[.bool (decide (y < 0)), .slice A2 n2 c2]] w (NumRes w 0 (x * y)) := by
  obtain ⟨i0, hi0, hz0, hz1, hz2⟩ := info_parts size_int'
  have hlen1 := Lib.hid h1.len
  have hlen2 := Lib.hid h2.len
  obtain ⟨L, hL⟩ : ∃ L, L = n1 + n2 + 1 := ⟨_, rfl⟩
  have hmk : ∀ W : World, (Instr.makeSlice 40 (.int .i64 ((n1 : Int) + (n2 : Int) + 1)) (.int .i64 ((n1 : Int) + (n2 : Int) + 1))).run Tryd.prog W = .ok (.slice (some ⟨W.heap.size, 0, none⟩) L L) (W.alloc (.cells (madeCells #[.int .i64 0] L) 3)) := fun W => by
    have := run_make (P := Tryd.prog) W 40 3 i0 _ Tryd.underlying40 hi0 hz0 .i64 .i64 L L (by omega) (Int.le_refl _) (by rw [hz2]; omega) (by omega)
    rw [hz1, Int.toNat_natCast, Nat.mul_one] at this
    rw [show (n1 : Int) + (n2 : Int) + 1 = (L : Int) by omega]
    exact this
  have HL := Lib.hid hL
  have hLl : n1 + n2 < L := by omega
  have hLm : L ≤ 2001 := by omega
  clear hL
  obtain ⟨b1, hb1⟩ : ∃ b, b = decide (x < 0) := ⟨_, rfl⟩
  obtain ⟨b2, hb2⟩ : ∃ b, b = decide (y < 0) := ⟨_, rfl⟩
  rw [← hb1, ← hb2]
  have HX := Lib.hid hb1; clear hb1
  have HY := Lib.hid hb2; clear hb2
  go_enter Tryd.func49, Tryd.ntmps49
  go_wp2_with fail
  have h0 := three w (.bool b1) (.slice A1 n1 c1) (.bool b2) (.slice A2 n2 c2) (.bool false) (.slice none 0 0) 72
  obtain ⟨V, hV⟩ : ∃ V, V = (((w.alloc (.cells #[.bool b1, .slice A1 n1 c1] 72)).alloc (.cells #[.bool b2, .slice A2 n2 c2] 72)).alloc (.cells #[.bool false, .slice none 0 0] 72)) := ⟨_, rfl⟩
  have hzV : V.heap.size = w.heap.size + 1 + 1 + 1 := by rw [hV]; simp
  rw [← hV] at h0 ⊢
  clear hV
  have r0 := Lib.hid (made_row V L V.heap.size (Nat.le_refl _) (by unfold maxLen; omega))
  have h1' := Lib.hid (h0.after ((Below.refl _ _).alloc (Nat.le_refl _) (.cells (madeCells #[.int .i64 0] L) 3)))
  clear h0
  obtain ⟨g, hg⟩ : ∃ g, g = w.heap.size + 1 + 1 + 1 := ⟨_, rfl⟩
  rw [hzV] at r0
  rw [← hg] at r0 hzV ⊢
  have hg2 : w.heap.size + 3 = g := by omega
  have HG := Lib.hid hg; clear hg
  go_loopw [6] (fun i wr => ∃ (k : Nat) (out : List Int), k ≤ n1 ∧ i = .int .i64 k ∧ Hid (wr.ownsRow g 3 1 (.slice (some ⟨g, 0, none⟩) L L) L (cellsI out)) ∧ Hid (TimesAt x.natAbs y.natAbs n1 n2 k 0 out) ∧ Hid (Three w wr (.bool b1) (.slice A1 n1 c1) (.bool b2) (.slice A2 n2 c2) (.bool false) (.slice none 0 0))) (fun i _ => n1 - (intOf i).toNat)
  case atStart => exact ⟨0, List.replicate L 0, by omega, rfl, r0, Lib.hid (by rw [HL.out]; exact TimesAt.start _ _ _ _), h1'⟩
  case round =>
    clear r0 h1'
    obtain ⟨i, out, hi, rfl, hrow, hT, hs⟩ := hrel
    by_cases hlt : i < n1
    · have t0 : decide ((i : Int) < (n1 : Int)) = true := decide_eq_true (by omega)
      obtain ⟨q0, q1, z0, z1⟩ := hs.out.s1
      go_wp2_with fail
      clear q0 q1 z0 z1
      generalize wr = W1 at hrow hs ⊢
      go_loopw [7] (fun u wr => ∃ (k : Nat) (out : List Int), k ≤ n2 ∧ u = .int .i64 k ∧ Hid (wr.ownsRow g 3 1 (.slice (some ⟨g, 0, none⟩) L L) L (cellsI out)) ∧ Hid (TimesAt x.natAbs y.natAbs n1 n2 i k out) ∧ Hid (Three w wr (.bool b1) (.slice A1 n1 c1) (.bool b2) (.slice A2 n2 c2) (.bool false) (.slice none 0 0))) (fun u _ => n2 - (intOf u).toNat)
      case atStart => exact ⟨0, out, by omega, rfl, hrow, hT, hs⟩
      case round =>
        clear hrow hT hs
        obtain ⟨k, out, hk, rfl, hrow, hT, hs⟩ := hrel
        have hbk := hs.out.below
        have hzk := hs.out.size
        by_cases hlk : k < n2
        · have t1 : decide ((k : Int) < (n2 : Int)) = true := decide_eq_true (by omega)
          obtain ⟨d0, h0, d00, d01⟩ := hT.out.get (j := i + k) (by omega)
          obtain ⟨d1, h1', d10, d11⟩ := hT.out.get (j := i + k + 1) (by omega)
          obtain ⟨ad1, dx, rfl, hb1, hx, hm, hc1, _, _⟩ := (h1.row.below hbk hB1).get hlt
          obtain ⟨ad2, dy, rfl, hb2, hy, hm2, hc2, _, _⟩ := (h2.row.below hbk hB2).get hlk
          have hdx : dx = dig x.natAbs i := by rw [digs_get i _ (by rw [hlen1.out]; exact hlt)] at hx; injection hx with hx; exact hx.symm
          have hdy : dy = dig y.natAbs k := by rw [digs_get k _ (by rw [hlen2.out]; exact hlk)] at hy; injection hy with hy; exact hy.symm
          have bx := dig_le x.natAbs i
          have by' := dig_le y.natAbs k
          have bdx : 0 ≤ dx ∧ dx ≤ 9 := by omega
          have bdy : 0 ≤ dy ∧ dy ≤ 9 := by omega
          obtain ⟨p, hp⟩ : ∃ p, p = dx * dy := ⟨_, rfl⟩
          have bp : 0 ≤ p ∧ p ≤ 81 := by
            rw [hp]
            exact ⟨Int.mul_nonneg bdx.1 bdy.1, Int.le_trans (Int.mul_le_mul bdx.2 bdy.2 bdy.1 (by decide)) (by decide)⟩
          have wp : IntKind.i64.wrap (dx * dy) = p := by rw [← hp]; exact wrapI _ (by omega)
          have w1 : IntKind.i64.wrap ((i : Int) + (k : Int)) = (i : Int) + (k : Int) := wrapI _ (by omega)
          have w2 : IntKind.i64.wrap (d0 + p) = d0 + p := wrapI _ (by omega)
          have HSTEP := Lib.hid (hT.out.step hlt hlk h0 h1' (x := d0 + p) (by rw [hp, hdx, hdy]))
          have HH0 := Lib.hid h0
          have HH1 := Lib.hid h1'
          clear hx hm hy hm2 hdx hdy h0 h1' hp bx by'
          obtain ⟨q0, q1, z0, z1⟩ := hs.out.s1
          obtain ⟨r0, r1, y0, y1⟩ := hs.out.s2
          have e0 : wr.cell? ⟨g, i + k, none⟩ = some (.int .i64 d0) := by
            have := hrow.out.cells (g := g) rfl (i + k) (.int .i64 d0) (by rw [cellsI_get, HH0.out]; rfl)
            rwa [addr_lit] at this
          have f0 : wr.frozen? ⟨g, i + k, none⟩ = false := hrow.out.frozenAt (i + k)
          have ha : (⟨g, 0, none⟩ : Addr).add (i + k) = ⟨g, i + k, none⟩ := addr_lit _ _
          have k1 : (0 : Int) ≤ (i : Int) + (k : Int) := by omega
          have k2 : (i : Int) + (k : Int) < (L : Int) := by omega
          have k3 : ((i : Int) + (k : Int)).toNat = i + k := by omega
          go_wp2_with fail
          go_region
          obtain ⟨W2, hW2⟩ : ∃ W2, W2 = (wr.setCell ⟨g, i + k, none⟩ (.int .i64 (d0 + p))).drew := ⟨_, rfl⟩
          have row2 : Hid (W2.ownsRow g 3 1 (.slice (some ⟨g, 0, none⟩) L L) L (cellsI (out.set (i + k) (d0 + p)))) := Lib.hid (by
            rw [hW2]
            have := (hrow.out.stored (i + k) (.int .i64 (d0 + p))).1
            simpa [cellsI] using this.drew)
          have hs2 : Hid (Three w W2 (.bool b1) (.slice (some ad1) n1 c1) (.bool b2) (.slice (some ad2) n2 c2) (.bool false) (.slice none 0 0)) := Lib.hid (by rw [hW2]; exact (hs.out.set ⟨g, i + k, none⟩ (.int .i64 (d0 + p)) (by simp only; omega)).drew)
          rw [← hW2]
          clear hW2 e0 f0 hrow hs q0 q1 z0 z1 r0 r1 y0 y1 hc1 hc2 hbk hzk wp w2
          obtain ⟨X, hX⟩ : ∃ X, X = d0 + p := ⟨_, rfl⟩
          rw [← hX] at row2 HSTEP ⊢
          have bX : 0 ≤ X ∧ X ≤ 99 := by omega
          clear hX
          have g0 : Hid ((out.set (i + k) X)[i + k]? = some X) := Lib.hid (by rw [List.getElem?_set_self (by have := (List.getElem?_eq_some_iff.1 HH0.out).1; exact this)])
          have g1 : Hid ((out.set (i + k) X)[i + k + 1]? = some d1) := Lib.hid (by rw [List.getElem?_set_ne (by omega)]; exact HH1.out)
          have e0 : W2.cell? ⟨g, i + k, none⟩ = some (.int .i64 X) := by
            have := row2.out.cells (g := g) rfl (i + k) (.int .i64 X) (by rw [cellsI_get, g0.out]; rfl)
            rwa [addr_lit] at this
          have e1 : W2.cell? ⟨g, i + k + 1, none⟩ = some (.int .i64 d1) := by
            have := row2.out.cells (g := g) rfl (i + k + 1) (.int .i64 d1) (by rw [cellsI_get, g1.out]; rfl)
            rwa [addr_lit] at this
          have f1 : W2.frozen? ⟨g, i + k + 1, none⟩ = false := row2.out.frozenAt (i + k + 1)
          have ha1 : (⟨g, 0, none⟩ : Addr).add (i + k + 1) = ⟨g, i + k + 1, none⟩ := addr_lit _ _
          have k4 : (0 : Int) ≤ (i : Int) + (k : Int) + 1 := by omega
          have k5 : (i : Int) + (k : Int) + 1 < (L : Int) := by omega
          have k6 : ((i : Int) + (k : Int) + 1).toNat = i + k + 1 := by omega
          have w3 : IntKind.i64.wrap ((i : Int) + (k : Int) + 1) = (i : Int) + (k : Int) + 1 := wrapI _ (by omega)
          have td : X.tdiv 10 = X / 10 := Int.tdiv_eq_ediv_of_nonneg bX.1
          have w4 : IntKind.i64.wrap (X / 10) = X / 10 := wrapI _ (by omega)
          have w5 : IntKind.i64.wrap (d1 + X / 10) = d1 + X / 10 := wrapI _ (by omega)
          go_wp2_with fail
          go_region
          obtain ⟨W3, hW3⟩ : ∃ W3, W3 = (W2.setCell ⟨g, i + k + 1, none⟩ (.int .i64 (d1 + X / 10))).drew := ⟨_, rfl⟩
          have row3 : Hid (W3.ownsRow g 3 1 (.slice (some ⟨g, 0, none⟩) L L) L (cellsI ((out.set (i + k) X).set (i + k + 1) (d1 + X / 10)))) := Lib.hid (by
            rw [hW3]
            have := (row2.out.stored (i + k + 1) (.int .i64 (d1 + X / 10))).1
            simpa [cellsI] using this.drew)
          have hs3 : Hid (Three w W3 (.bool b1) (.slice (some ad1) n1 c1) (.bool b2) (.slice (some ad2) n2 c2) (.bool false) (.slice none 0 0)) := Lib.hid (by rw [hW3]; exact (hs2.out.set ⟨g, i + k + 1, none⟩ (.int .i64 (d1 + X / 10)) (by simp only; omega)).drew)
          rw [← hW3]
          clear hW3 e0 e1 f1 row2 hs2 w5 w4 td w3 w1 k4 k5 k6 ha1
          have g2 : Hid (((out.set (i + k) X).set (i + k + 1) (d1 + X / 10))[i + k]? = some X) := Lib.hid (by rw [List.getElem?_set_ne (by omega)]; exact g0.out)
          have e0 : W3.cell? ⟨g, i + k, none⟩ = some (.int .i64 X) := by
            have := row3.out.cells (g := g) rfl (i + k) (.int .i64 X) (by rw [cellsI_get, g2.out]; rfl)
            rwa [addr_lit] at this
          have f0 : W3.frozen? ⟨g, i + k, none⟩ = false := row3.out.frozenAt (i + k)
          have tm : X.tmod 10 = X % 10 := Int.tmod_eq_emod_of_nonneg bX.1
          have row4 : Hid ((W3.setCell ⟨g, i + k, none⟩ (.int .i64 (X % 10))).ownsRow g 3 1 (.slice (some ⟨g, 0, none⟩) L L) L (cellsI (((out.set (i + k) X).set (i + k + 1) (d1 + X / 10)).set (i + k) (X % 10)))) := Lib.hid (by
            have := (row3.out.stored (i + k) (.int .i64 (X % 10))).1
            simpa [cellsI] using this)
          have hs4 : Hid (Three w (W3.setCell ⟨g, i + k, none⟩ (.int .i64 (X % 10))) (.bool b1) (.slice (some ad1) n1 c1) (.bool b2) (.slice (some ad2) n2 c2) (.bool false) (.slice none 0 0)) := Lib.hid (hs3.out.set ⟨g, i + k, none⟩ (.int .i64 (X % 10)) (by simp only; omega))
          clear row3 hs3 g0 g1 g2
          go_wp2_with fail
          go_roundw
          case rel => exact ⟨k + 1, _, by omega, by go_num, row4, HSTEP, hs4⟩
          case measure => simp only [intOf]; omega
        · have t1 : decide ((k : Int) < (n2 : Int)) = false := decide_eq_false (by omega)
          obtain rfl : n2 = k := by omega
          have HROW := Lib.hid (hT.out.row (by rw [hlen2.out]; omega))
          obtain ⟨r0, r1, y0, y1⟩ := hs.out.s2
          go_wp2_with fail
          go_roundw
          case rel => exact ⟨i + 1, out, by omega, by go_num, hrow, HROW, hs⟩
          case measure => simp only [intOf]; omega
    · have t0 : decide ((i : Int) < (n1 : Int)) = false := decide_eq_false (by omega)
      obtain rfl : n1 = i := by omega
      obtain ⟨hdk, hvl⟩ := hT.out.done (by rw [hlen1.out]; omega)
      have HD := Lib.hid hdk; clear hdk
      have HV := Lib.hid hvl; clear hvl
      have hlo := Lib.hid hT.out.1
      obtain ⟨q0, q1, z0, z1⟩ := hs.out.s1
      go_wp2_with fail
      clear q0 q1 z0 z1
      generalize wr = W1 at hrow hs ⊢
      go_loopw [8] (fun u wr => ∃ j : Nat, j + 1 ≤ L ∧ u = .int .i64 j ∧ Hid (wr.ownsRow g 3 1 (.slice (some ⟨g, 0, none⟩) L L) L (cellsI out)) ∧ Hid (Three w wr (.bool b1) (.slice A1 n1 c1) (.bool b2) (.slice A2 n2 c2) (.bool false) (.slice none 0 0))) (fun u _ => L - (intOf u).toNat)
      case atStart => exact ⟨0, by omega, rfl, hrow, hs⟩
      case round =>
        clear hrow hs
        obtain ⟨j, hj, rfl, hrow, hs⟩ := hrel
        by_cases hlj : j + 1 < L
        · have t1 : decide ((j : Int) + 1 < (L : Int)) = true := decide_eq_true (by omega)
          have hol : Hid (out.length = L) := Lib.hid (by rw [hlo.out, HL.out])
          obtain ⟨e0, h0⟩ : ∃ d, out[j]? = some d := ⟨_, List.getElem?_eq_getElem (by rw [hol.out]; omega)⟩
          obtain ⟨e1, h1'⟩ : ∃ d, out[j + 1]? = some d := ⟨_, List.getElem?_eq_getElem (by rw [hol.out]; omega)⟩
          have b0 := HD.out e0 (List.mem_of_getElem? h0)
          have b1' := HD.out e1 (List.mem_of_getElem? h1')
          have HH0 := Lib.hid h0; clear h0
          have HH1 := Lib.hid h1'; clear h1'
          have c0 : wr.cell? ⟨g, j, none⟩ = some (.int .i64 e0) := by
            have := hrow.out.cells (g := g) rfl j (.int .i64 e0) (by rw [cellsI_get, HH0.out]; rfl)
            rwa [addr_lit] at this
          have c1' : wr.cell? ⟨g, j + 1, none⟩ = some (.int .i64 e1) := by
            have := hrow.out.cells (g := g) rfl (j + 1) (.int .i64 e1) (by rw [cellsI_get, HH1.out]; rfl)
            rwa [addr_lit] at this
          have f1 : wr.frozen? ⟨g, j + 1, none⟩ = false := hrow.out.frozenAt (j + 1)
          have k1 : (0 : Int) ≤ (j : Int) + 1 := by omega
          have k3 : ((j : Int) + 1).toNat = j + 1 := by omega
          have k4 : (0 : Int) ≤ (j : Int) := by omega
          have k5 : (j : Int) < (L : Int) := by omega
          have w1 : IntKind.i64.wrap ((j : Int) + 1) = (j : Int) + 1 := wrapI _ (by omega)
          have td : e0.tdiv 10 = 0 := by rw [Int.tdiv_eq_ediv_of_nonneg b0.1]; omega
          have w2 : IntKind.i64.wrap 0 = 0 := by rfl
          have w3 : IntKind.i64.wrap e1 = e1 := wrapI _ (by omega)
          have ha : (⟨g, 0, none⟩ : Addr).add j = ⟨g, j, none⟩ := addr_lit _ _
          have ha1 : (⟨g, 0, none⟩ : Addr).add (j + 1) = ⟨g, j + 1, none⟩ := addr_lit _ _
          go_wp2_with fail
          go_region
          obtain ⟨W2, hW2⟩ : ∃ W2, W2 = (wr.setCell ⟨g, j + 1, none⟩ (.int .i64 e1)).drew := ⟨_, rfl⟩
          have row2 : Hid (W2.ownsRow g 3 1 (.slice (some ⟨g, 0, none⟩) L L) L (cellsI out)) := Lib.hid (by
            rw [hW2]
            have := (hrow.out.stored (j + 1) (.int .i64 e1)).1
            have e : (cellsI out).set (j + 1) (.int .i64 e1) = cellsI out := by
              have : cellsI (out.set (j + 1) e1) = (cellsI out).set (j + 1) (.int .i64 e1) := by simp [cellsI]
              rw [← this, set_same HH1.out]
            rw [e] at this
            exact this.drew)
          have hs2 : Hid (Three w W2 (.bool b1) (.slice A1 n1 c1) (.bool b2) (.slice A2 n2 c2) (.bool false) (.slice none 0 0)) := Lib.hid (by rw [hW2]; exact (hs.out.set ⟨g, j + 1, none⟩ (.int .i64 e1) (by simp only; omega)).drew)
          rw [← hW2]
          clear hW2 c0 c1' f1 hrow hs w1 w2 w3 td ha1
          have c0 : W2.cell? ⟨g, j, none⟩ = some (.int .i64 e0) := by
            have := row2.out.cells (g := g) rfl j (.int .i64 e0) (by rw [cellsI_get, HH0.out]; rfl)
            rwa [addr_lit] at this
          have f0 : W2.frozen? ⟨g, j, none⟩ = false := row2.out.frozenAt j
          have tm : e0.tmod 10 = e0 := by rw [Int.tmod_eq_emod_of_nonneg b0.1]; omega
          have tm2 : e0 % 10 = e0 := by omega
          have row3 : Hid ((W2.setCell ⟨g, j, none⟩ (.int .i64 e0)).ownsRow g 3 1 (.slice (some ⟨g, 0, none⟩) L L) L (cellsI out)) := Lib.hid (by
            have := (row2.out.stored j (.int .i64 e0)).1
            have e : (cellsI out).set j (.int .i64 e0) = cellsI out := by
              have : cellsI (out.set j e0) = (cellsI out).set j (.int .i64 e0) := by simp [cellsI]
              rw [← this, set_same HH0.out]
            rw [e] at this
            exact this)
          have hs3 : Hid (Three w (W2.setCell ⟨g, j, none⟩ (.int .i64 e0)) (.bool b1) (.slice A1 n1 c1) (.bool b2) (.slice A2 n2 c2) (.bool false) (.slice none 0 0)) := Lib.hid (hs2.out.set ⟨g, j, none⟩ (.int .i64 e0) (by simp only; omega))
          clear row2 hs2
          go_wp2_with fail
          go_roundw
          case rel => exact ⟨j + 1, by omega, by go_num, row3, hs3⟩
          case measure => simp only [intOf]; omega
        · have t1 : decide ((j : Int) + 1 < (L : Int)) = false := decide_eq_false (by omega)
          have hgs : g < wr.heap.size := (hrow.out.lt g rfl).2
          have HI : Hid (Ints wr wr.heap.size (some ⟨g, 0, none⟩) L out) := Lib.hid (Ints.of_own hrow.out (fun d hd => by have := HD.out d hd; omega) (by omega))
          have T := Lib.hid (trim_any wr.heap.size (b1 != b2) (some ⟨g, 0, none⟩) L L out wr HI.out (Nat.le_refl _) (Nat.le_refl _) HD.out)
          have hxy : sgn (b1 != b2) (val out) = x * y := by rw [HV.out, HX.out, HY.out]; exact sgn_times
          rw [hxy] at T
          obtain ⟨q0, q1, z0, z1⟩ := hs.out.s1
          obtain ⟨r0, r1, y0, y1⟩ := hs.out.s2
          clear hxy
          go_wp2_with fail
          refine T.out.mono ?_
          clear T q0 q1 z0 z1 r0 r1 y0 y1
          rintro e wx ⟨n', rfl, hn, hbx⟩
          obtain ⟨q0, q1, z0, z1⟩ := hs.out.s3.below hbx (by have := hs.out.size; omega)
          have HB := Lib.hid (hs.out.below.trans (hbx.mono hs.out.below.size))
          have hzx := hbx.size
          obtain ⟨d, hd⟩ : ∃ d, d = decide (x * y < 0) := ⟨_, rfl⟩
          rw [← hd]
          have HDD := Lib.hid hd; clear hd
          have HN := Lib.hid hn; clear hn hbx
          go_wp2_with fail
          refine bodyPost_ret (v := .agg #[.bool d, .slice (some ⟨g, 0, none⟩) n' L]) (by simp [results, Tryd.results49, go_sem, q0, q1]) rfl ?_
          refine ⟨some ⟨g, 0, none⟩, n', L, by rw [HDD.out], ((HN.out.set _ _ fun ad e h0 => ?_).set _ _ fun ad e h0 => ?_).more (by simpa using hzx), fun ad e h0 => .inr (by injection e with e; subst e; simp only; omega), (HB.out.setCell (by simp only; omega) _).setCell (by simp only; omega) _⟩
          all_goals
            injection e with e
            subst e
            simp only
            omega
end Go.Proofs.YtkdffcoofijhkaaDoor
