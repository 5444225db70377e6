import Derived.Test.YtfkkppagbhllgaaTgaWalkH
set_option linter.unusedVariables false
set_option linter.unusedSimpArgs false
set_option maxRecDepth 8000
namespace Go.Proofs.Ytfkkppagbhllgaa
open Go.RowKit

theorem SlotN.setAt {w : World} {g : Nat} {l : List Value} (h : SlotN w g l) (k : Nat) (hk : k < l.length) (v : Value) : SlotN (w.setCell ⟨g, k, none⟩ v) g (l.set k v) := by
  have h0 := h.c k _ (List.getElem?_eq_getElem hk)
  refine ⟨fun i x hi => ?_, fun i => by rw [World.frozen?_setCell]; exact h.f i⟩
  rw [List.getElem?_set] at hi
  by_cases e : k = i
  · subst e
    rw [if_pos rfl, if_pos hk] at hi
    injection hi with hi; subst hi
    rw [World.cell?_setCell_same' _ _ _ (by rw [h0]; rfl)]
  · rw [if_neg e] at hi
    rw [World.cell?_setCell_other _ _ _ _ (by intro h9; injection h9 with _ h9; exact e h9)]
    exact h.c i x hi
theorem SlotN.otherJ {w : World} {g : Nat} {l : List Value} (h : SlotN w g l) (g2 k : Nat) (hne : g2 ≠ g) (u : Value) : SlotN (w.setCell ⟨g2, k, none⟩ u) g l :=
  ⟨fun j x hj => by rw [World.cell?_setCell_other _ _ _ _ (by intro e; have := congrArg Addr.block e; simp at this; omega)]; exact h.c j x hj, fun j => by rw [World.frozen?_setCell]; exact h.f j⟩
/-- an image's value -/
def imV (w h bits : Int) (A : Option Addr) (n c : Nat) : Value := .agg #[.int .i64 w, .int .i64 h, .int .i64 bits, .slice A n c]
def u0 : Value := .int .u8 0
theorem made18 : madeCells #[.int .u8 0] 18 = #[u0, u0, u0, u0, u0, u0, u0, u0, u0, u0, u0, u0, u0, u0, u0, u0, u0, u0] := by kernel_rfl
theorem head_text (V : World) (g : Nat) (cs : List Value) (h : SlotN V g cs) (l : List UInt8) (hl : cs = Lib.byteCells l) (h18 : l.length = 18) : (convert 22 9 (.slice (some ⟨g, 0, none⟩) 18 18)).run Try.prog V = .ok (.string ⟨l.toArray⟩) V := by
  subst hl
  have := run_convert_bytes_back (P := Try.prog) V 22 9 5 ⟨g, 0, none⟩ 18 l Try.underlying22 Try.underlying5 Try.underlying9 fun j hj => by
    rw [addr_lit]
    exact h.c j _ (by simp [Lib.byteCells, List.getElem?_eq_getElem hj])
  rwa [h18] at this
theorem head_cells (p q z : Nat) (b : Int) (packed top : Bool) (h1 : p ≤ 256) (h2 : q ≤ 256) (hz : (z = 3 ∧ b = 24) ∨ (z = 4 ∧ b = 32)) :
    [u0, u0, .int .u8 (if packed then 10 else 2), u0, u0, u0, u0, u0, u0, u0, u0, u0, .int .u8 ((p : Int) % 256), .int .u8 ((p : Int) / 256), .int .u8 ((q : Int) % 256), .int .u8 ((q : Int) / 256), .int .u8 b, .int .u8 ((if z = 4 then 8 else 0) + (if top then 32 else 0))] = Lib.byteCells (headT p q z packed top) := by
  unfold Lib.byteCells headT u0
  have e1 := u8_of (p % 256) (by omega)
  have e2 := u8_of (p / 256) (by omega)
  have e3 := u8_of (q % 256) (by omega)
  have e4 := u8_of (q / 256) (by omega)
  simp only [List.map_cons, List.map_nil, e1, e2, e3, e4]
  rcases hz with ⟨rfl, rfl⟩ | ⟨rfl, rfl⟩ <;> cases packed <;> cases top <;> rfl
set_option maxHeartbeats 800000 in
theorem head_any (p q z : Nat) (A : Option Addr) (n c : Nat) (packed top : Bool) (w : World) (h1 : p ≤ 256) (h2 : q ≤ 256) (hz : z = 3 ∨ z = 4) :
    Calls Try.prog 31 #[imV p q ((8 * z : Nat) : Int) A n c, .bool packed, .bool top] w (SR w (headT p q z packed top)) := by
  unfold imV
  have hmk : ∀ W : World, (Instr.makeSlice 22 (.int .i64 18) (.int .i64 18)).run Try.prog W = .ok (.slice (some ⟨W.heap.size, 0, none⟩) 18 18) (W.alloc (.cells (madeCells #[.int .u8 0] 18) 5)) := fun W => run_make_row' (P := Try.prog) 22 5 (.int .u8 0) 1 Try.underlying22 size_u8 rfl .i64 .i64 18 (by omega) (by omega) W
  have hbx := SlotN.new w [.int .i64 (p : Int), .int .i64 (q : Int), .int .i64 ((8 * z : Nat) : Int), .slice A n c] #[.int .i64 (p : Int), .int .i64 (q : Int), .int .i64 ((8 * z : Nat) : Int), .slice A n c] 24 rfl
  have hbb : Below w.heap.size w (w.alloc (.cells #[.int .i64 (p : Int), .int .i64 (q : Int), .int .i64 ((8 * z : Nat) : Int), .slice A n c] 24)) := (Below.refl _ _).alloc (Nat.le_refl _) _
  have hz1 : (w.alloc (.cells #[.int .i64 (p : Int), .int .i64 (q : Int), .int .i64 ((8 * z : Nat) : Int), .slice A n c] 24)).heap.size = w.heap.size + 1 := by simp
  have s0 := SlotN.new (w.alloc (.cells #[.int .i64 (p : Int), .int .i64 (q : Int), .int .i64 ((8 * z : Nat) : Int), .slice A n c] 24)) [u0, u0, u0, u0, u0, u0, u0, u0, u0, u0, u0, u0, u0, u0, u0, u0, u0, u0] (madeCells #[.int .u8 0] 18) 5 made18
  have hb1 : Below (w.heap.size + 1) (w.alloc (.cells #[.int .i64 (p : Int), .int .i64 (q : Int), .int .i64 ((8 * z : Nat) : Int), .slice A n c] 24)) ((w.alloc (.cells #[.int .i64 (p : Int), .int .i64 (q : Int), .int .i64 ((8 * z : Nat) : Int), .slice A n c] 24)).alloc (.cells (madeCells #[.int .u8 0] 18) 5)) := (Below.refl _ _).alloc (by simp) _
  rw [hz1] at s0
  have hbx1 := hbx.below hb1 (by omega)
  have hB := hbb.trans (hb1.mono (by omega))
  clear hbx hbb hb1
  generalize hzz : ((8 * z : Nat) : Int) = zz at *
  have FIN : Hid (∀ w', Below w.heap.size w w' → SR w (headT p q z packed top) (.returned (.string ⟨(headT p q z packed top).toArray⟩)) w') := Lib.hid fun w' hb => ⟨rfl, hb⟩
  generalize hQ : SR w (headT p q z packed top) = Qp at FIN ⊢
  clear hQ
  have hmk0 := hmk (w.alloc (.cells #[.int .i64 (p : Int), .int .i64 (q : Int), .int .i64 zz, .slice A n c] 24))
  rw [hz1] at hmk0
  clear hmk
  generalize (w.alloc (.cells #[.int .i64 (p : Int), .int .i64 (q : Int), .int .i64 zz, .slice A n c] 24)).alloc (.cells (madeCells #[.int .u8 0] 18) 5) = V0 at *
  have d2 := s0.c 2 _ rfl
  have f2 := s0.f 2
  have s1 := s0.setAt 2 (by decide) (.int .u8 2)
  have hB1 := hB.setCell (p := ⟨w.heap.size + 1, 2, none⟩) (by simp) (.int .u8 2)
  have hX1 := hbx1.otherJ (w.heap.size + 1) 2 (by omega) (.int .u8 2)
  have HZ := Lib.hid hzz; clear hzz
  clear s0 hB hbx1
  cases packed with
  | false =>
    go_enter Try.func31, Try.ntmps31
    go_wp2_with fail
    generalize V0.setCell ⟨w.heap.size + 1, 2, none⟩ (.int .u8 2) = V1 at *
    clear d2 f2 hz1 hmk0
    have b0 := hX1.c 0 _ rfl
    have b1 := hX1.c 1 _ rfl
    have b2 := hX1.c 2 _ rfl
    have d12 := s1.c 12 _ rfl
    have d13 := s1.c 13 _ rfl
    have f12 := s1.f 12
    have f13 := s1.f 13
    go_region
    have s2 := (s1.setAt 12 (by simp) (.int .u8 ((p : Int) % 256))).setAt 13 (by simp) (.int .u8 ((p : Int) / 256))
    have hX2 := (hX1.otherJ (w.heap.size + 1) 12 (by omega) (.int .u8 ((p : Int) % 256))).otherJ (w.heap.size + 1) 13 (by omega) (.int .u8 ((p : Int) / 256))
    have hB2 := ((hB1.setCell (p := ⟨w.heap.size + 1, 12, none⟩) (by simp) (.int .u8 ((p : Int) % 256))).setCell (p := ⟨w.heap.size + 1, 13, none⟩) (by simp) (.int .u8 ((p : Int) / 256))).drew
    have s2 := s2.drewN 1
    have hX2 := hX2.drewN 1
    rw [show ∀ W : World, W.drewN 1 = W.drew from fun _ => rfl] at s2 hX2
    clear s1 hX1 hB1 b0 b1 b2 d12 d13 f12 f13
    generalize ((V1.setCell ⟨w.heap.size + 1, 12, none⟩ (.int .u8 ((p : Int) % 256))).setCell ⟨w.heap.size + 1, 13, none⟩ (.int .u8 ((p : Int) / 256))).drew = V2 at *
    have b1 := hX2.c 1 _ rfl
    have d14 := s2.c 14 _ rfl
    have d15 := s2.c 15 _ rfl
    have f14 := s2.f 14
    have f15 := s2.f 15
    go_wp2_with fail
    go_region
    have s3 := (s2.setAt 14 (by simp) (.int .u8 ((q : Int) % 256))).setAt 15 (by simp) (.int .u8 ((q : Int) / 256))
    have hX3 := (hX2.otherJ (w.heap.size + 1) 14 (by omega) (.int .u8 ((q : Int) % 256))).otherJ (w.heap.size + 1) 15 (by omega) (.int .u8 ((q : Int) / 256))
    have hB3 := ((hB2.setCell (p := ⟨w.heap.size + 1, 14, none⟩) (by simp) (.int .u8 ((q : Int) % 256))).setCell (p := ⟨w.heap.size + 1, 15, none⟩) (by simp) (.int .u8 ((q : Int) / 256))).drew
    have s3 := s3.drewN 1
    have hX3 := hX3.drewN 1
    rw [show ∀ W : World, W.drewN 1 = W.drew from fun _ => rfl] at s3 hX3
    clear s2 hX2 hB2 b1 d14 d15 f14 f15
    generalize ((V2.setCell ⟨w.heap.size + 1, 14, none⟩ (.int .u8 ((q : Int) % 256))).setCell ⟨w.heap.size + 1, 15, none⟩ (.int .u8 ((q : Int) / 256))).drew = V3 at *
    have or0 : Go.bits BinOp.or IntKind.u8 0 32 = 32 := by kernel_rfl
    have or8 : Go.bits BinOp.or IntKind.u8 8 32 = 40 := by kernel_rfl
    rcases hz with rfl | rfl
    · obtain rfl : zz = 24 := HZ.out.symm
      have b2 := hX3.c 2 _ rfl
      have d16 := s3.c 16 _ rfl
      have f16 := s3.f 16
      have s4 := s3.setAt 16 (by simp) (.int .u8 24)
      have hX4 := hX3.otherJ (w.heap.size + 1) 16 (by omega) (.int .u8 24)
      have hB4 := hB3.setCell (p := ⟨w.heap.size + 1, 16, none⟩) (by simp) (.int .u8 24)
      have e2 := hX4.c 2 _ rfl
      cases top with
      | false =>
        have kc := head_text _ _ _ s4 (headT p q 3 false false) (head_cells p q 3 24 false false h1 h2 (by decide)) rfl
        have HB := Lib.hid hB4
        clear s3 hX3 hB3 s4 hX4 hB4
        go_wp2_with fail
        exact FIN.out _ HB.out
      | true =>
        have d17 : (V3.setCell ⟨w.heap.size + 1, 16, none⟩ (.int .u8 24)).cell? ⟨w.heap.size + 1, 17, none⟩ = some (.int .u8 0) := s4.c 17 _ rfl
        have f17 := s4.f 17
        have s5 := s4.setAt 17 (by simp) (.int .u8 32)
        have hB5 := hB4.setCell (p := ⟨w.heap.size + 1, 17, none⟩) (by simp) (.int .u8 32)
        have kc := head_text _ _ _ s5 (headT p q 3 false true) (head_cells p q 3 24 false true h1 h2 (by decide)) rfl
        have HB := Lib.hid hB5
        clear s3 hX3 hB3 s4 hX4 hB4 s5 hB5
        go_wp2_with fail
        exact FIN.out _ HB.out
    · obtain rfl : zz = 32 := HZ.out.symm
      have b2 := hX3.c 2 _ rfl
      have d16 := s3.c 16 _ rfl
      have f16 := s3.f 16
      have s4 := s3.setAt 16 (by simp) (.int .u8 32)
      have hX4 := hX3.otherJ (w.heap.size + 1) 16 (by omega) (.int .u8 32)
      have hB4 := hB3.setCell (p := ⟨w.heap.size + 1, 16, none⟩) (by simp) (.int .u8 32)
      have e2 := hX4.c 2 _ rfl
      have d17 := s4.c 17 _ rfl
      have f17 := s4.f 17
      have s5 := s4.setAt 17 (by simp) (.int .u8 8)
      have hB5 := hB4.setCell (p := ⟨w.heap.size + 1, 17, none⟩) (by simp) (.int .u8 8)
      cases top with
      | false =>
        have kc := head_text _ _ _ s5 (headT p q 4 false false) (head_cells p q 4 32 false false h1 h2 (by decide)) rfl
        have HB := Lib.hid hB5
        clear s3 hX3 hB3 s4 hX4 hB4 s5 hB5
        go_wp2_with fail
        exact FIN.out _ HB.out
      | true =>
        have g17 := s5.c 17 _ rfl
        have k17 := s5.f 17
        have s6 := s5.setAt 17 (by simp) (.int .u8 40)
        have hB6 := hB5.setCell (p := ⟨w.heap.size + 1, 17, none⟩) (by simp) (.int .u8 40)
        have kc := head_text _ _ _ s6 (headT p q 4 false true) (head_cells p q 4 32 false true h1 h2 (by decide)) rfl
        have HB := Lib.hid hB6
        clear s3 hX3 hB3 s4 hX4 hB4 s5 hB5 s6 hB6
        go_wp2_with fail
        exact FIN.out _ HB.out
  | true =>
    have g2 := s1.c 2 _ rfl
    have k2 := s1.f 2
    have s2 := s1.setAt 2 (by decide) (.int .u8 10)
    have hB2 := hB1.setCell (p := ⟨w.heap.size + 1, 2, none⟩) (by simp) (.int .u8 10)
    have hX2 := hX1.otherJ (w.heap.size + 1) 2 (by omega) (.int .u8 10)
    clear s1 hB1 hX1
    go_enter Try.func31, Try.ntmps31
    go_wp2_with fail
    generalize (V0.setCell ⟨w.heap.size + 1, 2, none⟩ (.int .u8 2)).setCell ⟨w.heap.size + 1, 2, none⟩ (.int .u8 10) = V1 at *
    have s1 := s2
    have hB1 := hB2
    have hX1 := hX2
    clear s2 hB2 hX2 g2 k2
    clear d2 f2 hz1 hmk0
    have b0 := hX1.c 0 _ rfl
    have b1 := hX1.c 1 _ rfl
    have b2 := hX1.c 2 _ rfl
    have d12 := s1.c 12 _ rfl
    have d13 := s1.c 13 _ rfl
    have f12 := s1.f 12
    have f13 := s1.f 13
    go_region
    have s2 := (s1.setAt 12 (by simp) (.int .u8 ((p : Int) % 256))).setAt 13 (by simp) (.int .u8 ((p : Int) / 256))
    have hX2 := (hX1.otherJ (w.heap.size + 1) 12 (by omega) (.int .u8 ((p : Int) % 256))).otherJ (w.heap.size + 1) 13 (by omega) (.int .u8 ((p : Int) / 256))
    have hB2 := ((hB1.setCell (p := ⟨w.heap.size + 1, 12, none⟩) (by simp) (.int .u8 ((p : Int) % 256))).setCell (p := ⟨w.heap.size + 1, 13, none⟩) (by simp) (.int .u8 ((p : Int) / 256))).drew
    have s2 := s2.drewN 1
    have hX2 := hX2.drewN 1
    rw [show ∀ W : World, W.drewN 1 = W.drew from fun _ => rfl] at s2 hX2
    clear s1 hX1 hB1 b0 b1 b2 d12 d13 f12 f13
    generalize ((V1.setCell ⟨w.heap.size + 1, 12, none⟩ (.int .u8 ((p : Int) % 256))).setCell ⟨w.heap.size + 1, 13, none⟩ (.int .u8 ((p : Int) / 256))).drew = V2 at *
    have b1 := hX2.c 1 _ rfl
    have d14 := s2.c 14 _ rfl
    have d15 := s2.c 15 _ rfl
    have f14 := s2.f 14
    have f15 := s2.f 15
    go_wp2_with fail
    go_region
    have s3 := (s2.setAt 14 (by simp) (.int .u8 ((q : Int) % 256))).setAt 15 (by simp) (.int .u8 ((q : Int) / 256))
    have hX3 := (hX2.otherJ (w.heap.size + 1) 14 (by omega) (.int .u8 ((q : Int) % 256))).otherJ (w.heap.size + 1) 15 (by omega) (.int .u8 ((q : Int) / 256))
    have hB3 := ((hB2.setCell (p := ⟨w.heap.size + 1, 14, none⟩) (by simp) (.int .u8 ((q : Int) % 256))).setCell (p := ⟨w.heap.size + 1, 15, none⟩) (by simp) (.int .u8 ((q : Int) / 256))).drew
    have s3 := s3.drewN 1
    have hX3 := hX3.drewN 1
    rw [show ∀ W : World, W.drewN 1 = W.drew from fun _ => rfl] at s3 hX3
    clear s2 hX2 hB2 b1 d14 d15 f14 f15
    generalize ((V2.setCell ⟨w.heap.size + 1, 14, none⟩ (.int .u8 ((q : Int) % 256))).setCell ⟨w.heap.size + 1, 15, none⟩ (.int .u8 ((q : Int) / 256))).drew = V3 at *
    have or0 : Go.bits BinOp.or IntKind.u8 0 32 = 32 := by kernel_rfl
    have or8 : Go.bits BinOp.or IntKind.u8 8 32 = 40 := by kernel_rfl
    rcases hz with rfl | rfl
    · obtain rfl : zz = 24 := HZ.out.symm
      have b2 := hX3.c 2 _ rfl
      have d16 := s3.c 16 _ rfl
      have f16 := s3.f 16
      have s4 := s3.setAt 16 (by simp) (.int .u8 24)
      have hX4 := hX3.otherJ (w.heap.size + 1) 16 (by omega) (.int .u8 24)
      have hB4 := hB3.setCell (p := ⟨w.heap.size + 1, 16, none⟩) (by simp) (.int .u8 24)
      have e2 := hX4.c 2 _ rfl
      cases top with
      | false =>
        have kc := head_text _ _ _ s4 (headT p q 3 true false) (head_cells p q 3 24 true false h1 h2 (by decide)) rfl
        have HB := Lib.hid hB4
        clear s3 hX3 hB3 s4 hX4 hB4
        go_wp2_with fail
        exact FIN.out _ HB.out
      | true =>
        have d17 : (V3.setCell ⟨w.heap.size + 1, 16, none⟩ (.int .u8 24)).cell? ⟨w.heap.size + 1, 17, none⟩ = some (.int .u8 0) := s4.c 17 _ rfl
        have f17 := s4.f 17
        have s5 := s4.setAt 17 (by simp) (.int .u8 32)
        have hB5 := hB4.setCell (p := ⟨w.heap.size + 1, 17, none⟩) (by simp) (.int .u8 32)
        have kc := head_text _ _ _ s5 (headT p q 3 true true) (head_cells p q 3 24 true true h1 h2 (by decide)) rfl
        have HB := Lib.hid hB5
        clear s3 hX3 hB3 s4 hX4 hB4 s5 hB5
        go_wp2_with fail
        exact FIN.out _ HB.out
    · obtain rfl : zz = 32 := HZ.out.symm
      have b2 := hX3.c 2 _ rfl
      have d16 := s3.c 16 _ rfl
      have f16 := s3.f 16
      have s4 := s3.setAt 16 (by simp) (.int .u8 32)
      have hX4 := hX3.otherJ (w.heap.size + 1) 16 (by omega) (.int .u8 32)
      have hB4 := hB3.setCell (p := ⟨w.heap.size + 1, 16, none⟩) (by simp) (.int .u8 32)
      have e2 := hX4.c 2 _ rfl
      have d17 := s4.c 17 _ rfl
      have f17 := s4.f 17
      have s5 := s4.setAt 17 (by simp) (.int .u8 8)
      have hB5 := hB4.setCell (p := ⟨w.heap.size + 1, 17, none⟩) (by simp) (.int .u8 8)
      cases top with
      | false =>
        have kc := head_text _ _ _ s5 (headT p q 4 true false) (head_cells p q 4 32 true false h1 h2 (by decide)) rfl
        have HB := Lib.hid hB5
        clear s3 hX3 hB3 s4 hX4 hB4 s5 hB5
        go_wp2_with fail
        exact FIN.out _ HB.out
      | true =>
        have g17 := s5.c 17 _ rfl
        have k17 := s5.f 17
        have s6 := s5.setAt 17 (by simp) (.int .u8 40)
        have hB6 := hB5.setCell (p := ⟨w.heap.size + 1, 17, none⟩) (by simp) (.int .u8 40)
        have kc := head_text _ _ _ s6 (headT p q 4 true true) (head_cells p q 4 32 true true h1 h2 (by decide)) rfl
        have HB := Lib.hid hB6
        clear s3 hX3 hB3 s4 hX4 hB4 s5 hB5 s6 hB6
        go_wp2_with fail
        exact FIN.out _ HB.out
end Go.Proofs.Ytfkkppagbhllgaa
