/-
  THE STEPS OF limewashref01.Text.
-/
import Derived.Test.YtcllghcplphijaaDoorWideRefD
import Derived.Test.YtcllghcplphijaaDoorWideWalkJ
import Derived.Laws.IdiomStrings
set_option linter.unusedVariables false
set_option linter.unusedSimpArgs false
set_option maxRecDepth 8000
namespace Go.Proofs.YtcllghcplphijaaDoor
open Go.RowKit

def chr (d : Int) : UInt8 := UInt8.ofNat (48 + d.toNat)
/-- a number's text -/
def textOf (z : Int) : List UInt8 := (if z < 0 then [45] else []) ++ (if z = 0 then [48] else (digs z.natAbs).reverse.map chr)

theorem rtext_no (a : Pt) (w : World) (ha : a.b) (hi : wIs a = false) : Calls Tryd.prog 17 #[ptV a] w (SR w []) := by
  have HI := Lib.hid (fun W => ris_any a W ha)
  rw [hi] at HI
  obtain ⟨x, y⟩ := a
  clear hi
  unfold SR ptV at *
  simp only at HI
  obtain ⟨s1, hb, hz⟩ := one_slot w [.int .i64 x, .int .i64 y] #[.int .i64 x, .int .i64 y] 23 rfl
  go_enter Tryd.func17, Tryd.ntmps17
  go_wp2_with fail
  generalize hW : w.alloc (.cells #[.int .i64 x, .int .i64 y] 23) = W at s1 hb hz ⊢
  refine (HI.out W).mono ?_
  clear HI hW
  rintro e w1 ⟨rfl, hb1⟩
  have HB := Lib.hid (hb.trans (hb1.mono (by omega)))
  clear s1 hb hb1 hz
  go_wp2_with fail
  go_ret
  exact ⟨rfl, HB.out⟩

/-- one byte, made a text -/
theorem run_byte (w : World) (d : Int) (hd : 0 ≤ d ∧ d ≤ 9) (g : Nat) (hc : w.cell? ⟨g, 0, none⟩ = some (.int .u8 (48 + d))) :
    (convert 64 9 (.slice (some ⟨g, 0, none⟩) 1 1)).run Tryd.prog w = .ok (.string ⟨[chr d].toArray⟩) w := by
  have e : (48 + d : Int) = ((chr d).toNat : Int) := by
    unfold chr
    rw [UInt8.toNat_ofNat']
    omega
  rw [e] at hc
  refine run_convert_bytes_back w _ _ 5 ⟨g, 0, none⟩ 1 [chr d] Tryd.underlying64 Tryd.underlying5 Tryd.underlying9 fun j hj => ?_
  obtain rfl : j = 0 := by simp at hj; omega
  rw [addr_lit]
  exact hc

set_option maxHeartbeats 3200000 in
theorem rtext_yes (a : Pt) (w : World) (ha : a.b) (hi : wIs a = true) : Calls Tryd.prog 17 #[ptV a] w (SR w (textOf (wval a))) := by
  have HI := Lib.hid (fun W => ris_any a W ha)
  rw [hi] at HI
  obtain ⟨b, e0⟩ : ∃ b, b = decide (wval a < 0) := ⟨_, rfl⟩
  have hf := wval_few ha
  have K0 := Lib.hid (fun W => number_b a b W ha e0)
  have hX40 : (wval a).natAbs < 10 ^ 40 := by
    have hv : wval a = a.x * 1000000000000000000 + a.y := rfl
    unfold Pt.b i64b at ha
    omega
  generalize wval a = z at *
  have HE0 := Lib.hid e0; clear e0
  obtain ⟨X, hX⟩ : ∃ X, X = z.natAbs := ⟨_, rfl⟩
  rw [← hX] at hX40
  obtain ⟨x, y⟩ := a
  unfold ptV at *
  simp only at HI K0
  obtain ⟨s1, hb, hz⟩ := one_slot w [.int .i64 x, .int .i64 y] #[.int .i64 x, .int .i64 y] 23 rfl
  have FIN : Hid (∀ (l : List UInt8) w', l = textOf z → Below w.heap.size w w' → SR w (textOf z) (.returned (.string ⟨l.toArray⟩)) w') := Lib.hid (by rintro l w' rfl hb; exact ⟨rfl, hb⟩)
  generalize hQ : SR w (textOf z) = Qp at FIN ⊢
  clear hQ
  go_enter Tryd.func17, Tryd.ntmps17
  go_wp2_with fail
  generalize hW : w.alloc (.cells #[.int .i64 x, .int .i64 y] 23) = W at s1 hb hz ⊢
  refine (HI.out W).mono ?_
  clear HI hW
  rintro e w1 ⟨rfl, hb1⟩
  have HB := Lib.hid (hb.trans (hb1.mono (by omega)))
  have r0 := s1.below hb1 (by omega)
  have c0 := r0.c 0 _ rfl
  have c1 := r0.c 1 _ rfl
  clear s1 hb hb1 hz r0
  go_wp2_with fail
  refine (K0.out w1).mono ?_
  clear K0 c0 c1
  rintro e w2 ⟨A, m, c, rfl, hN, hp, bb⟩
  have HB := Lib.hid (HB.out.trans (bb.mono HB.out.size))
  obtain ⟨s1, hb, hz⟩ := one_slot w2 [.bool b, .slice A m c] #[.bool b, .slice A m c] 48 rfl
  clear bb hp
  have hm1 : m ≤ 1000 := hN.few (Nat.lt_of_lt_of_le (show z.natAbs < 10 ^ 40 by rw [← hX]; exact hX40) (Nat.pow_le_pow_right (by decide) (by decide)))
  have hlen := Lib.hid hN.len
  have hrow0 := hN.row
  rw [← hX] at hlen hrow0
  go_wp2_with fail
  generalize w2.alloc (.cells #[.bool b, .slice A m c] 48) = V at s1 hb hz ⊢
  have HB := Lib.hid (HB.out.trans (hb.mono HB.out.size))
  have hrow := hrow0.below (b := w2.heap.size) hb (Nat.le_refl _)
  have H7 := Lib.hid s1
  have hzV : w2.heap.size < V.heap.size := by omega
  clear s1 hb hz hrow0 hN
  go_loopw [4, 5] (fun u i wr => ∃ (k : Nat) (l : List UInt8), k ≤ m ∧ i = .int .i64 k ∧ u = .string ⟨l.toArray⟩ ∧ Hid (l = ((digs X).take k).reverse.map chr) ∧ l.length = k ∧ Below V.heap.size V wr) (fun _ i _ => m - (intOf i).toNat)
  case atStart => exact ⟨0, [], by omega, rfl, rfl, Lib.hid rfl, rfl, Below.refl _ _⟩
  case round =>
    obtain ⟨k, l, hk, rfl, rfl, hl, hll, hbk⟩ := hrel
    have hzr := hbk.size
    have s7 := H7.out.below hbk hzV
    by_cases hlt : k < m
    · have t0 : decide ((k : Int) < (m : Int)) = true := decide_eq_true (by omega)
      obtain ⟨ad, d, rfl, hb, hx, hm', hc, _, _⟩ := (hrow.below hbk (Nat.le_of_lt hzV)).get hlt
      have hd9 := digs_ok X d hm'
      have HX := Lib.hid hx
      have q0 := s7.c 0 _ rfl
      have q1 := s7.c 1 _ rfl
      have kc := run_byte (wr.alloc (.cells #[.int .u8 (48 + d)] 5)) d hd9 wr.heap.size (by rw [cell_of_row _ _ _ _ _ _ (heap_alloc_new wr _)]; rfl)
      have A1 := run_cat (P := Tryd.prog) [chr d] l (by simp; omega) (wr.alloc (.cells #[.int .u8 (48 + d)] 5))
      have HL2 : Hid (chr d :: l = ((digs X).take (k + 1)).reverse.map chr) := Lib.hid (by rw [take_snoc' _ _ _ HX.out, hl.out]; simp)
      clear hx hm' s7
      go_wp2_with fail
      go_roundw
      case rel => exact ⟨k + 1, chr d :: l, by omega, by go_num, rfl, HL2, by simp [hll], hbk.alloc hbk.size _⟩
      case measure => simp only [intOf]; omega
    · have t0 : decide ((k : Int) < (m : Int)) = false := decide_eq_false (by omega)
      obtain rfl : m = k := by omega
      have HLX : Hid (l = (digs X).reverse.map chr) := Lib.hid (by rw [hl.out, List.take_of_length_le (by rw [hlen.out]; omega)])
      have q0 := s7.c 0 _ rfl
      have q1 := s7.c 1 _ rfl
      have HB := Lib.hid (HB.out.trans (hbk.mono HB.out.size))
      clear hl s7
      rcases Nat.eq_zero_or_pos m with rfl | hm0
      · have hz0 : z = 0 := by
          have h1 := hlen.out
          have h2 : ¬ (digs X).length > 0 := by omega
          have h3 : ¬ 1 ≤ X := fun h => h2 ((digs_lt 0 X).2 (by simpa using h))
          omega
        obtain rfl : b = false := by rw [HE0.out, hz0]; rfl
        have HF : Hid (([48] : List UInt8) = textOf z) := Lib.hid (by rw [hz0]; rfl)
        clear hz0
        go_wp2_with fail
        exact FIN.out _ _ HF.out HB.out
      · have d0 : ((m : Int) == 0) = false := by simp; omega
        have hz0 : z ≠ 0 := by
          intro h
          have h1 := hlen.out
          rw [hX, h] at h1
          simp [digs_zero] at h1
          omega
        cases b with
        | true =>
          have hzn : z < 0 := by have := HE0.out; simpa using this.symm
          have HF : Hid (45 :: l = textOf z) := Lib.hid (by unfold textOf; rw [if_pos hzn, if_neg hz0, HLX.out, hX]; rfl)
          have A2 := run_cat (P := Tryd.prog) [45] l (by simp; omega) wr
          clear hz0 hzn
          go_wp2_with fail
          exact FIN.out _ _ HF.out HB.out
        | false =>
          have hzn : ¬ z < 0 := by have := HE0.out; simpa using this.symm
          have HF : Hid (l = textOf z) := Lib.hid (by unfold textOf; rw [if_neg hzn, if_neg hz0, HLX.out, hX]; rfl)
          clear hz0 hzn
          go_wp2_with fail
          exact FIN.out _ _ HF.out HB.out
end Go.Proofs.YtcllghcplphijaaDoor
