/-
  THE WALK OF limewashref29.row.
-/
import Derived.Test.YtfkkppagbhllgaaTgaRefG
import Derived.Test.YtfkkppagbhllgaaTgaLawB
import Derived.Test.YtfkkppagbhllgaaTgaRefA
import Derived.Test.YtfkkppagbhllgaaTgaSame
import Derived.Test.YtfkkppagbhllgaaTgaRefB
import Derived.Test.YtfkkppagbhllgaaTgaRefC
set_option linter.unusedVariables false
set_option linter.unusedSimpArgs false
set_option maxRecDepth 100000
namespace Go.Proofs.Ytfkkppagbhllgaa
open Go.RowKit

set_option maxHeartbeats 1600000 in
theorem rowref_any (m : Im) (A : Option Addr) (n c : Nat) (y : Nat) (k : Int) (w : World) (hI : Byts w w.heap.size A n m.d) (hnc : n ≤ c) (hc : c ≤ 9223372036854775807) (hok : m.ok) (hy : y < m.h) (hk : k = (y : Int)) :
    Calls Try.prog 36 #[imV m.w m.h ((8 * m.z : Nat) : Int) A n c, .int .i64 k] w (SR w (turnedT m.z (rowT m.w m.z m.d y))) := by
  subst hk
  have hb : Below w.heap.size w (w.alloc (.cells #[.int .i64 (m.w : Int), .int .i64 (m.h : Int), .int .i64 ((8 * m.z : Nat) : Int), .slice A n c] 24)) := (Below.refl _ _).alloc (Nat.le_refl _) _
  have s1 := SlotN.new w [.int .i64 (m.w : Int), .int .i64 (m.h : Int), .int .i64 ((8 * m.z : Nat) : Int), .slice A n c] #[.int .i64 (m.w : Int), .int .i64 (m.h : Int), .int .i64 ((8 * m.z : Nat) : Int), .slice A n c] 24 rfl
  have hI1 := hI.below hb.drew (Nat.le_refl _)
  have hlen := hI.length
  have hw1 := hok.w1
  have hw2 := hok.w2
  have hz := hok.z
  have hn := hok.n
  obtain ⟨N, hN⟩ : ∃ N, N = m.w * m.z := ⟨_, rfl⟩
  have hN1 : N ≤ 256 * 4 := by rw [hN]; exact Nat.mul_le_mul hw2 (by omega)
  have hN0 : 0 < N := by rw [hN]; exact Nat.mul_pos hw1 (by omega)
  obtain ⟨M, hM⟩ : ∃ M, M = N * y := ⟨_, rfl⟩
  have hMN : M + N ≤ n := by
    rw [hM, ← Nat.mul_succ, ← hlen, hn, Nat.mul_assoc m.w m.h, Nat.mul_comm m.h, ← Nat.mul_assoc, ← hN]
    exact Nat.mul_le_mul_left _ hy
  have hrl : (rowT m.w m.z m.d y).length = m.w * m.z := row_len hok hy
  have e1 : (m.w : Int) * (m.z : Int) = (N : Int) := by rw [hN]; simp
  have e2 : (N : Int) * (y : Int) = (M : Int) := by rw [hM]; simp
  have hn9 : n ≤ 262144 := by
    rw [← hlen, hn]
    have h5 : m.w * m.h * m.z ≤ 256 * 256 * m.z := Nat.mul_le_mul_right _ (Nat.mul_le_mul hok.w2 hok.h2)
    omega
  have td8 : ((8 * m.z : Nat) : Int).tdiv 8 = (m.z : Int) := by rw [Int.tdiv_eq_ediv_of_nonneg (by omega)]; omega
  obtain ⟨ad, rfl, hbl, kc⟩ := hI1.text M N (c - M) hN0 hMN
  have hrT : rowT m.w m.z m.d y = (m.d.drop M).take N := by unfold rowT; rw [← hN, ← hM]
  rw [← hrT] at kc
  have hsl := slice_bytes ad n c M N (M : Int) ((M : Int) + (N : Int)) rfl (by simp) hN0 (by omega)
  have KT := Lib.hid (fun W => turnref_any m.z m.w (rowT m.w m.z m.d y) W hz (by rw [hrl, ← hN]; omega) hrl hw1)
  have HB := Lib.hid hb
  generalize rowT m.w m.z m.d y = T at *
  have FIN : Hid (∀ w', Below w.heap.size w w' → SR w (turnedT m.z T) (.returned (.string ⟨(turnedT m.z T).toArray⟩)) w') := Lib.hid fun w' hb => ⟨rfl, hb⟩
  generalize hQ : SR w (turnedT m.z T) = Qp at FIN ⊢
  clear hQ
  have h24 : ((8 * m.z : Nat) : Int) ≤ 32 := by omega
  have h00 : 0 ≤ ((8 * m.z : Nat) : Int) := by omega
  generalize ((8 * m.z : Nat) : Int) = zz at *
  have z9 : m.z ≤ 4 := by omega
  unfold imV
  generalize m.z = z at *
  generalize m.w = p at *
  generalize m.h = q at *
  generalize m.d = d at *
  have wz : IntKind.i64.wrap (z : Int) = (z : Int) := by rw [IntKind.wrap_i64]; omega
  have wN : IntKind.i64.wrap (N : Int) = (N : Int) := by rw [IntKind.wrap_i64]; omega
  have wM : IntKind.i64.wrap (M : Int) = (M : Int) := by rw [IntKind.wrap_i64]; omega
  have wMN : IntKind.i64.wrap ((M : Int) + (N : Int)) = (M : Int) + (N : Int) := by rw [IntKind.wrap_i64]; omega
  have m0 := s1.c 0 _ rfl
  have m2 := s1.c 2 _ rfl
  have m3 := s1.c 3 _ rfl
  clear s1 hI1 hI hlen hw1 hw2 hz hn hN hM hrl hrT hb hok hy
  unfold SR at KT
  go_enter Try.func36, Try.ntmps36
  go_wp2_with fail
  generalize w.alloc (.cells #[.int .i64 (p : Int), .int .i64 (q : Int), .int .i64 zz, .slice (some ad) n c] 24) = W1 at *
  go_region_with (go_at_call 50; refine (KT.out _).mono ?_; rintro e wx ⟨rfl, hbx⟩)
  all_goals
    have HX := Lib.hid (HB.out.drew.trans (hbx.mono HB.out.size))
    clear hbx
    go_wp2_with fail
    go_ret
    exact FIN.out _ HX.out
end Go.Proofs.Ytfkkppagbhllgaa

/-
  THE WALKS OF limewashref29's head, Is and Own.
-/
set_option linter.unusedVariables false
set_option linter.unusedSimpArgs false
set_option maxRecDepth 100000
namespace Go.Proofs.Ytfkkppagbhllgaa
open Go.RowKit

set_option maxHeartbeats 800000 in
theorem headref_any (p q z : Nat) (A : Option Addr) (n c : Nat) (packed top : Bool) (w : World) (h1 : p ≤ 256) (h2 : q ≤ 256) (hz : z = 3 ∨ z = 4) :
    Calls Try.prog 35 #[imV p q ((8 * z : Nat) : Int) A n c, .bool packed, .bool top] w (SR w (headT p q z packed top)) := by
  unfold imV SR
  have hb : Below w.heap.size w (w.alloc (.cells #[.int .i64 (p : Int), .int .i64 (q : Int), .int .i64 ((8 * z : Nat) : Int), .slice A n c] 24)) := (Below.refl _ _).alloc (Nat.le_refl _) _
  have hbx := SlotN.new w [.int .i64 (p : Int), .int .i64 (q : Int), .int .i64 ((8 * z : Nat) : Int), .slice A n c] #[.int .i64 (p : Int), .int .i64 (q : Int), .int .i64 ((8 * z : Nat) : Int), .slice A n c] 24 rfl
  have hz1 : (w.alloc (.cells #[.int .i64 (p : Int), .int .i64 (q : Int), .int .i64 ((8 * z : Nat) : Int), .slice A n c] 24)).heap.size = w.heap.size + 1 := by simp
  have HZ1 := Lib.hid hz1
  have HB := Lib.hid hb
  have m0 := hbx.c 0 _ rfl
  have m1 := hbx.c 1 _ rfl
  have m2 := hbx.c 2 _ rfl
  obtain ⟨p0, hp0⟩ : ∃ x, x = p % 256 := ⟨_, rfl⟩
  obtain ⟨p1, hp1⟩ : ∃ x, x = p / 256 := ⟨_, rfl⟩
  obtain ⟨q0, hq0⟩ : ∃ x, x = q % 256 := ⟨_, rfl⟩
  obtain ⟨q1, hq1⟩ : ∃ x, x = q / 256 := ⟨_, rfl⟩
  have tp0 : (p : Int).tmod 256 = (p0 : Int) := by rw [Int.tmod_eq_emod_of_nonneg (by omega)]; omega
  have tp1 : (p : Int).tdiv 256 = (p1 : Int) := by rw [Int.tdiv_eq_ediv_of_nonneg (by omega)]; omega
  have tq0 : (q : Int).tmod 256 = (q0 : Int) := by rw [Int.tmod_eq_emod_of_nonneg (by omega)]; omega
  have tq1 : (q : Int).tdiv 256 = (q1 : Int) := by rw [Int.tdiv_eq_ediv_of_nonneg (by omega)]; omega
  have bp0 : p0 < 256 := by omega
  have bp1 : p1 < 256 := by omega
  have bq0 : q0 < 256 := by omega
  have bq1 : q1 < 256 := by omega
  have HP := Lib.hid (⟨hp0, hp1, hq0, hq1⟩ : _ ∧ _ ∧ _ ∧ _)
  have wp0 : IntKind.i64.wrap (p0 : Int) = (p0 : Int) := by rw [IntKind.wrap_i64]; omega
  have wp1 : IntKind.i64.wrap (p1 : Int) = (p1 : Int) := by rw [IntKind.wrap_i64]; omega
  have wq0 : IntKind.i64.wrap (q0 : Int) = (q0 : Int) := by rw [IntKind.wrap_i64]; omega
  have wq1 : IntKind.i64.wrap (q1 : Int) = (q1 : Int) := by rw [IntKind.wrap_i64]; omega
  have up0 : IntKind.u8.wrap (p0 : Int) = (p0 : Int) := by rw [IntKind.wrap_u8]; omega
  have up1 : IntKind.u8.wrap (p1 : Int) = (p1 : Int) := by rw [IntKind.wrap_u8]; omega
  have uq0 : IntKind.u8.wrap (q0 : Int) = (q0 : Int) := by rw [IntKind.wrap_u8]; omega
  have uq1 : IntKind.u8.wrap (q1 : Int) = (q1 : Int) := by rw [IntKind.wrap_u8]; omega
  clear hp0 hp1 hq0 hq1 hbx hb h1 h2
  rcases hz with rfl | rfl
  · rw [show ((8 * 3 : Nat) : Int) = 24 from rfl] at *
    have u1 : IntKind.u8.wrap 24 = 24 := rfl
    cases packed
    · cases top
      · go_enter Try.func35, Try.ntmps35
        have s2 := SlotN.new (w.alloc (.cells #[.int .i64 (p : Int), .int .i64 (q : Int), .int .i64 24, .slice A n c] 24)) [.int .u8 0, .int .u8 0, .int .u8 2, .int .u8 0, .int .u8 0, .int .u8 0, .int .u8 0, .int .u8 0, .int .u8 0, .int .u8 0, .int .u8 0, .int .u8 0, .int .u8 (p0 : Int), .int .u8 (p1 : Int), .int .u8 (q0 : Int), .int .u8 (q1 : Int), .int .u8 24, .int .u8 0] #[.int .u8 0, .int .u8 0, .int .u8 2, .int .u8 0, .int .u8 0, .int .u8 0, .int .u8 0, .int .u8 0, .int .u8 0, .int .u8 0, .int .u8 0, .int .u8 0, .int .u8 (p0 : Int), .int .u8 (p1 : Int), .int .u8 (q0 : Int), .int .u8 (q1 : Int), .int .u8 24, .int .u8 0] 5 rfl
        have kc := head_text _ _ _ s2 (headT p q 3 false false) (by
          unfold headT Lib.byteCells
          obtain ⟨e1, e2, e3, e4⟩ := HP.out
          rw [← e1, ← e2, ← e3, ← e4]
          simp only [List.map_cons, List.map_nil, u8_of p0 (by omega), u8_of p1 (by omega), u8_of q0 (by omega), u8_of q1 (by omega)]
          rfl) rfl
        have hb2 := Lib.hid (HB.out.alloc HB.out.size (.cells #[.int .u8 0, .int .u8 0, .int .u8 2, .int .u8 0, .int .u8 0, .int .u8 0, .int .u8 0, .int .u8 0, .int .u8 0, .int .u8 0, .int .u8 0, .int .u8 0, .int .u8 (p0 : Int), .int .u8 (p1 : Int), .int .u8 (q0 : Int), .int .u8 (q1 : Int), .int .u8 24, .int .u8 0] 5))
        rw [HZ1.out] at kc
        clear s2
        go_wp2_with fail
        go_ret
        exact ⟨rfl, hb2.out⟩
      · go_enter Try.func35, Try.ntmps35
        have s2 := SlotN.new (w.alloc (.cells #[.int .i64 (p : Int), .int .i64 (q : Int), .int .i64 24, .slice A n c] 24)) [.int .u8 0, .int .u8 0, .int .u8 2, .int .u8 0, .int .u8 0, .int .u8 0, .int .u8 0, .int .u8 0, .int .u8 0, .int .u8 0, .int .u8 0, .int .u8 0, .int .u8 (p0 : Int), .int .u8 (p1 : Int), .int .u8 (q0 : Int), .int .u8 (q1 : Int), .int .u8 24, .int .u8 32] #[.int .u8 0, .int .u8 0, .int .u8 2, .int .u8 0, .int .u8 0, .int .u8 0, .int .u8 0, .int .u8 0, .int .u8 0, .int .u8 0, .int .u8 0, .int .u8 0, .int .u8 (p0 : Int), .int .u8 (p1 : Int), .int .u8 (q0 : Int), .int .u8 (q1 : Int), .int .u8 24, .int .u8 32] 5 rfl
        have kc := head_text _ _ _ s2 (headT p q 3 false true) (by
          unfold headT Lib.byteCells
          obtain ⟨e1, e2, e3, e4⟩ := HP.out
          rw [← e1, ← e2, ← e3, ← e4]
          simp only [List.map_cons, List.map_nil, u8_of p0 (by omega), u8_of p1 (by omega), u8_of q0 (by omega), u8_of q1 (by omega)]
          rfl) rfl
        have hb2 := Lib.hid (HB.out.alloc HB.out.size (.cells #[.int .u8 0, .int .u8 0, .int .u8 2, .int .u8 0, .int .u8 0, .int .u8 0, .int .u8 0, .int .u8 0, .int .u8 0, .int .u8 0, .int .u8 0, .int .u8 0, .int .u8 (p0 : Int), .int .u8 (p1 : Int), .int .u8 (q0 : Int), .int .u8 (q1 : Int), .int .u8 24, .int .u8 32] 5))
        rw [HZ1.out] at kc
        clear s2
        go_wp2_with fail
        go_ret
        exact ⟨rfl, hb2.out⟩
    · cases top
      · go_enter Try.func35, Try.ntmps35
        have s2 := SlotN.new (w.alloc (.cells #[.int .i64 (p : Int), .int .i64 (q : Int), .int .i64 24, .slice A n c] 24)) [.int .u8 0, .int .u8 0, .int .u8 10, .int .u8 0, .int .u8 0, .int .u8 0, .int .u8 0, .int .u8 0, .int .u8 0, .int .u8 0, .int .u8 0, .int .u8 0, .int .u8 (p0 : Int), .int .u8 (p1 : Int), .int .u8 (q0 : Int), .int .u8 (q1 : Int), .int .u8 24, .int .u8 0] #[.int .u8 0, .int .u8 0, .int .u8 10, .int .u8 0, .int .u8 0, .int .u8 0, .int .u8 0, .int .u8 0, .int .u8 0, .int .u8 0, .int .u8 0, .int .u8 0, .int .u8 (p0 : Int), .int .u8 (p1 : Int), .int .u8 (q0 : Int), .int .u8 (q1 : Int), .int .u8 24, .int .u8 0] 5 rfl
        have kc := head_text _ _ _ s2 (headT p q 3 true false) (by
          unfold headT Lib.byteCells
          obtain ⟨e1, e2, e3, e4⟩ := HP.out
          rw [← e1, ← e2, ← e3, ← e4]
          simp only [List.map_cons, List.map_nil, u8_of p0 (by omega), u8_of p1 (by omega), u8_of q0 (by omega), u8_of q1 (by omega)]
          rfl) rfl
        have hb2 := Lib.hid (HB.out.alloc HB.out.size (.cells #[.int .u8 0, .int .u8 0, .int .u8 10, .int .u8 0, .int .u8 0, .int .u8 0, .int .u8 0, .int .u8 0, .int .u8 0, .int .u8 0, .int .u8 0, .int .u8 0, .int .u8 (p0 : Int), .int .u8 (p1 : Int), .int .u8 (q0 : Int), .int .u8 (q1 : Int), .int .u8 24, .int .u8 0] 5))
        rw [HZ1.out] at kc
        clear s2
        go_wp2_with fail
        go_ret
        exact ⟨rfl, hb2.out⟩
      · go_enter Try.func35, Try.ntmps35
        have s2 := SlotN.new (w.alloc (.cells #[.int .i64 (p : Int), .int .i64 (q : Int), .int .i64 24, .slice A n c] 24)) [.int .u8 0, .int .u8 0, .int .u8 10, .int .u8 0, .int .u8 0, .int .u8 0, .int .u8 0, .int .u8 0, .int .u8 0, .int .u8 0, .int .u8 0, .int .u8 0, .int .u8 (p0 : Int), .int .u8 (p1 : Int), .int .u8 (q0 : Int), .int .u8 (q1 : Int), .int .u8 24, .int .u8 32] #[.int .u8 0, .int .u8 0, .int .u8 10, .int .u8 0, .int .u8 0, .int .u8 0, .int .u8 0, .int .u8 0, .int .u8 0, .int .u8 0, .int .u8 0, .int .u8 0, .int .u8 (p0 : Int), .int .u8 (p1 : Int), .int .u8 (q0 : Int), .int .u8 (q1 : Int), .int .u8 24, .int .u8 32] 5 rfl
        have kc := head_text _ _ _ s2 (headT p q 3 true true) (by
          unfold headT Lib.byteCells
          obtain ⟨e1, e2, e3, e4⟩ := HP.out
          rw [← e1, ← e2, ← e3, ← e4]
          simp only [List.map_cons, List.map_nil, u8_of p0 (by omega), u8_of p1 (by omega), u8_of q0 (by omega), u8_of q1 (by omega)]
          rfl) rfl
        have hb2 := Lib.hid (HB.out.alloc HB.out.size (.cells #[.int .u8 0, .int .u8 0, .int .u8 10, .int .u8 0, .int .u8 0, .int .u8 0, .int .u8 0, .int .u8 0, .int .u8 0, .int .u8 0, .int .u8 0, .int .u8 0, .int .u8 (p0 : Int), .int .u8 (p1 : Int), .int .u8 (q0 : Int), .int .u8 (q1 : Int), .int .u8 24, .int .u8 32] 5))
        rw [HZ1.out] at kc
        clear s2
        go_wp2_with fail
        go_ret
        exact ⟨rfl, hb2.out⟩
  · rw [show ((8 * 4 : Nat) : Int) = 32 from rfl] at *
    have u1 : IntKind.u8.wrap 32 = 32 := rfl
    cases packed
    · cases top
      · go_enter Try.func35, Try.ntmps35
        have s2 := SlotN.new (w.alloc (.cells #[.int .i64 (p : Int), .int .i64 (q : Int), .int .i64 32, .slice A n c] 24)) [.int .u8 0, .int .u8 0, .int .u8 2, .int .u8 0, .int .u8 0, .int .u8 0, .int .u8 0, .int .u8 0, .int .u8 0, .int .u8 0, .int .u8 0, .int .u8 0, .int .u8 (p0 : Int), .int .u8 (p1 : Int), .int .u8 (q0 : Int), .int .u8 (q1 : Int), .int .u8 32, .int .u8 8] #[.int .u8 0, .int .u8 0, .int .u8 2, .int .u8 0, .int .u8 0, .int .u8 0, .int .u8 0, .int .u8 0, .int .u8 0, .int .u8 0, .int .u8 0, .int .u8 0, .int .u8 (p0 : Int), .int .u8 (p1 : Int), .int .u8 (q0 : Int), .int .u8 (q1 : Int), .int .u8 32, .int .u8 8] 5 rfl
        have kc := head_text _ _ _ s2 (headT p q 4 false false) (by
          unfold headT Lib.byteCells
          obtain ⟨e1, e2, e3, e4⟩ := HP.out
          rw [← e1, ← e2, ← e3, ← e4]
          simp only [List.map_cons, List.map_nil, u8_of p0 (by omega), u8_of p1 (by omega), u8_of q0 (by omega), u8_of q1 (by omega)]
          rfl) rfl
        have hb2 := Lib.hid (HB.out.alloc HB.out.size (.cells #[.int .u8 0, .int .u8 0, .int .u8 2, .int .u8 0, .int .u8 0, .int .u8 0, .int .u8 0, .int .u8 0, .int .u8 0, .int .u8 0, .int .u8 0, .int .u8 0, .int .u8 (p0 : Int), .int .u8 (p1 : Int), .int .u8 (q0 : Int), .int .u8 (q1 : Int), .int .u8 32, .int .u8 8] 5))
        rw [HZ1.out] at kc
        clear s2
        go_wp2_with fail
        go_ret
        exact ⟨rfl, hb2.out⟩
      · go_enter Try.func35, Try.ntmps35
        have s2 := SlotN.new (w.alloc (.cells #[.int .i64 (p : Int), .int .i64 (q : Int), .int .i64 32, .slice A n c] 24)) [.int .u8 0, .int .u8 0, .int .u8 2, .int .u8 0, .int .u8 0, .int .u8 0, .int .u8 0, .int .u8 0, .int .u8 0, .int .u8 0, .int .u8 0, .int .u8 0, .int .u8 (p0 : Int), .int .u8 (p1 : Int), .int .u8 (q0 : Int), .int .u8 (q1 : Int), .int .u8 32, .int .u8 40] #[.int .u8 0, .int .u8 0, .int .u8 2, .int .u8 0, .int .u8 0, .int .u8 0, .int .u8 0, .int .u8 0, .int .u8 0, .int .u8 0, .int .u8 0, .int .u8 0, .int .u8 (p0 : Int), .int .u8 (p1 : Int), .int .u8 (q0 : Int), .int .u8 (q1 : Int), .int .u8 32, .int .u8 40] 5 rfl
        have kc := head_text _ _ _ s2 (headT p q 4 false true) (by
          unfold headT Lib.byteCells
          obtain ⟨e1, e2, e3, e4⟩ := HP.out
          rw [← e1, ← e2, ← e3, ← e4]
          simp only [List.map_cons, List.map_nil, u8_of p0 (by omega), u8_of p1 (by omega), u8_of q0 (by omega), u8_of q1 (by omega)]
          rfl) rfl
        have hb2 := Lib.hid (HB.out.alloc HB.out.size (.cells #[.int .u8 0, .int .u8 0, .int .u8 2, .int .u8 0, .int .u8 0, .int .u8 0, .int .u8 0, .int .u8 0, .int .u8 0, .int .u8 0, .int .u8 0, .int .u8 0, .int .u8 (p0 : Int), .int .u8 (p1 : Int), .int .u8 (q0 : Int), .int .u8 (q1 : Int), .int .u8 32, .int .u8 40] 5))
        rw [HZ1.out] at kc
        clear s2
        go_wp2_with fail
        go_ret
        exact ⟨rfl, hb2.out⟩
    · cases top
      · go_enter Try.func35, Try.ntmps35
        have s2 := SlotN.new (w.alloc (.cells #[.int .i64 (p : Int), .int .i64 (q : Int), .int .i64 32, .slice A n c] 24)) [.int .u8 0, .int .u8 0, .int .u8 10, .int .u8 0, .int .u8 0, .int .u8 0, .int .u8 0, .int .u8 0, .int .u8 0, .int .u8 0, .int .u8 0, .int .u8 0, .int .u8 (p0 : Int), .int .u8 (p1 : Int), .int .u8 (q0 : Int), .int .u8 (q1 : Int), .int .u8 32, .int .u8 8] #[.int .u8 0, .int .u8 0, .int .u8 10, .int .u8 0, .int .u8 0, .int .u8 0, .int .u8 0, .int .u8 0, .int .u8 0, .int .u8 0, .int .u8 0, .int .u8 0, .int .u8 (p0 : Int), .int .u8 (p1 : Int), .int .u8 (q0 : Int), .int .u8 (q1 : Int), .int .u8 32, .int .u8 8] 5 rfl
        have kc := head_text _ _ _ s2 (headT p q 4 true false) (by
          unfold headT Lib.byteCells
          obtain ⟨e1, e2, e3, e4⟩ := HP.out
          rw [← e1, ← e2, ← e3, ← e4]
          simp only [List.map_cons, List.map_nil, u8_of p0 (by omega), u8_of p1 (by omega), u8_of q0 (by omega), u8_of q1 (by omega)]
          rfl) rfl
        have hb2 := Lib.hid (HB.out.alloc HB.out.size (.cells #[.int .u8 0, .int .u8 0, .int .u8 10, .int .u8 0, .int .u8 0, .int .u8 0, .int .u8 0, .int .u8 0, .int .u8 0, .int .u8 0, .int .u8 0, .int .u8 0, .int .u8 (p0 : Int), .int .u8 (p1 : Int), .int .u8 (q0 : Int), .int .u8 (q1 : Int), .int .u8 32, .int .u8 8] 5))
        rw [HZ1.out] at kc
        clear s2
        go_wp2_with fail
        go_ret
        exact ⟨rfl, hb2.out⟩
      · go_enter Try.func35, Try.ntmps35
        have s2 := SlotN.new (w.alloc (.cells #[.int .i64 (p : Int), .int .i64 (q : Int), .int .i64 32, .slice A n c] 24)) [.int .u8 0, .int .u8 0, .int .u8 10, .int .u8 0, .int .u8 0, .int .u8 0, .int .u8 0, .int .u8 0, .int .u8 0, .int .u8 0, .int .u8 0, .int .u8 0, .int .u8 (p0 : Int), .int .u8 (p1 : Int), .int .u8 (q0 : Int), .int .u8 (q1 : Int), .int .u8 32, .int .u8 40] #[.int .u8 0, .int .u8 0, .int .u8 10, .int .u8 0, .int .u8 0, .int .u8 0, .int .u8 0, .int .u8 0, .int .u8 0, .int .u8 0, .int .u8 0, .int .u8 0, .int .u8 (p0 : Int), .int .u8 (p1 : Int), .int .u8 (q0 : Int), .int .u8 (q1 : Int), .int .u8 32, .int .u8 40] 5 rfl
        have kc := head_text _ _ _ s2 (headT p q 4 true true) (by
          unfold headT Lib.byteCells
          obtain ⟨e1, e2, e3, e4⟩ := HP.out
          rw [← e1, ← e2, ← e3, ← e4]
          simp only [List.map_cons, List.map_nil, u8_of p0 (by omega), u8_of p1 (by omega), u8_of q0 (by omega), u8_of q1 (by omega)]
          rfl) rfl
        have hb2 := Lib.hid (HB.out.alloc HB.out.size (.cells #[.int .u8 0, .int .u8 0, .int .u8 10, .int .u8 0, .int .u8 0, .int .u8 0, .int .u8 0, .int .u8 0, .int .u8 0, .int .u8 0, .int .u8 0, .int .u8 0, .int .u8 (p0 : Int), .int .u8 (p1 : Int), .int .u8 (q0 : Int), .int .u8 (q1 : Int), .int .u8 32, .int .u8 40] 5))
        rw [HZ1.out] at kc
        clear s2
        go_wp2_with fail
        go_ret
        exact ⟨rfl, hb2.out⟩
end Go.Proofs.Ytfkkppagbhllgaa

/-
  THE WALK OF limewashref29.Put.
-/
set_option linter.unusedVariables false
set_option linter.unusedSimpArgs false
set_option maxRecDepth 100000
namespace Go.Proofs.Ytfkkppagbhllgaa
open Go.RowKit

theorem packref_any (s : List UInt8) (size : Int) (w : World) (hl : s.length ≤ 1000000) :
    Calls Try.prog 17 #[.string ⟨s.toArray⟩, .int .i64 size] w (SE w (packR s size).1 (packR s size).2) := by
  cases h : packOk s size with
  | false =>
    rw [packR_no h]
    exact packref_no s size w hl h
  | true =>
    obtain ⟨k, rfl, hk, hm⟩ := packOk_nat h
    rw [packR_yes hk hm]
    rcases hk with rfl | rfl
    · exact packref_3 3 s w (.inl rfl) rfl hl hm
    · exact packref_4 4 s w (.inr rfl) rfl rfl hl hm

/-- the rows laid so far -/
def rowsUp (m : Im) (packed top : Bool) (i : Nat) : List UInt8 := headT m.w m.h m.z packed top ++ (List.range i).flatMap fun j => putRow packed m.z (turnedT m.z (rowT m.w m.z m.d (ordT m.h top j)))
theorem rowsUp_step (m : Im) (packed top : Bool) (i : Nat) : rowsUp m packed top (i + 1) = rowsUp m packed top i ++ putRow packed m.z (turnedT m.z (rowT m.w m.z m.d (ordT m.h top i))) := by
  unfold rowsUp
  rw [List.range_succ, List.flatMap_append, ← List.append_assoc]
  simp
theorem rowsUp_done (m : Im) (packed top : Bool) : rowsUp m packed top m.h ++ footT = putT m.w m.h m.z m.d packed top := by unfold rowsUp putT; rfl
theorem rowsUp_len {m : Im} (h : m.ok) (packed top : Bool) : ∀ i, i ≤ m.h → (rowsUp m packed top i).length ≤ 18 + i * 1100
  | 0, _ => by unfold rowsUp; simp [headT_len]
  | i + 1, hi => by
    have ih := rowsUp_len h packed top i (by omega)
    have hr := row_len h (ordT_lt top (show i < m.h by omega))
    have := putRow_len (z := m.z) (m := m.w) (t := turnedT m.z (rowT m.w m.z m.d (ordT m.h top i))) packed h.z (by rw [turnedT_len, hr]) h.w2
    rw [rowsUp_step, List.length_append]; omega

set_option maxHeartbeats 400000 in
theorem putref_no (p q b : Int) (A : Option Addr) (n c : Nat) (packed top : Bool) (w : World) (hn : n ≤ 9223372036854775807) (h : isT p q b n = false) :
    Calls Try.prog 13 #[imV p q b A n c, .bool packed, .bool top] w (SE w [] 1) := by
  have K := Lib.hid (fun W => isref_any p q b A n c W hn)
  rw [h] at K
  have HB := Lib.hid ((Below.refl w.heap.size w).alloc (Nat.le_refl _) (.cells #[.int .i64 p, .int .i64 q, .int .i64 b, .slice A n c] 24))
  have s1 := SlotN.new w [.int .i64 p, .int .i64 q, .int .i64 b, .slice A n c] #[.int .i64 p, .int .i64 q, .int .i64 b, .slice A n c] 24 rfl
  have m0 := s1.c 0 _ rfl
  have m1 := s1.c 1 _ rfl
  have m2 := s1.c 2 _ rfl
  have m3 := s1.c 3 _ rfl
  unfold imV at *
  unfold SE
  clear s1
  go_enter Try.func13, Try.ntmps13
  go_wp2_with fail
  generalize w.alloc (.cells #[.int .i64 p, .int .i64 q, .int .i64 b, .slice A n c] 24) = W1 at *
  refine (K.out _).mono ?_
  rintro e w2 ⟨rfl, hb2⟩
  have HB2 := Lib.hid (HB.out.trans (hb2.mono HB.out.size))
  clear hb2 K
  go_wp2_with fail
  go_ret2
  exact ⟨rfl, HB2.out⟩
set_option maxHeartbeats 1600000 in
theorem putref_yes (m : Im) (A : Option Addr) (n c : Nat) (packed top : Bool) (w : World) (hI : Byts w w.heap.size A n m.d) (hnc : n ≤ c) (hc : c ≤ 9223372036854775807) (hok : m.ok) :
    Calls Try.prog 13 #[imV m.w m.h ((8 * m.z : Nat) : Int) A n c, .bool packed, .bool top] w (SE w (putT m.w m.h m.z m.d packed top) 0) := by
  have hb : Below w.heap.size w (w.alloc (.cells #[.int .i64 (m.w : Int), .int .i64 (m.h : Int), .int .i64 ((8 * m.z : Nat) : Int), .slice A n c] 24)) := (Below.refl _ _).alloc (Nat.le_refl _) _
  have HS1 := Lib.hid (SlotN.new w [.int .i64 (m.w : Int), .int .i64 (m.h : Int), .int .i64 ((8 * m.z : Nat) : Int), .slice A n c] #[.int .i64 (m.w : Int), .int .i64 (m.h : Int), .int .i64 ((8 * m.z : Nat) : Int), .slice A n c] 24 rfl)
  have hz1 : w.heap.size < (w.alloc (.cells #[.int .i64 (m.w : Int), .int .i64 (m.h : Int), .int .i64 ((8 * m.z : Nat) : Int), .slice A n c] 24)).heap.size := by simp
  have hI1 := (hI.below hb (Nat.le_refl _)).more hb.size
  have HB := Lib.hid hb
  have hlen := hI.length
  have KI := Lib.hid (fun W => isref_any m.w m.h ((8 * m.z : Nat) : Int) A n c W hI.len)
  rw [← hlen, isT_ok hok, hlen] at KI
  have KH := Lib.hid (fun W => headref_any m.w m.h m.z A n c packed top W hok.w2 hok.h2 hok.z)
  have KR := Lib.hid (fun (k : Nat) (y : Int) W (hk : k < m.h) (hy : y = ((ordT m.h top k : Nat) : Int)) (hb : Below (w.alloc (.cells #[.int .i64 (m.w : Int), .int .i64 (m.h : Int), .int .i64 ((8 * m.z : Nat) : Int), .slice A n c] 24)).heap.size (w.alloc (.cells #[.int .i64 (m.w : Int), .int .i64 (m.h : Int), .int .i64 ((8 * m.z : Nat) : Int), .slice A n c] 24)) W) =>
    rowref_any m A n c (ordT m.h top k) y W ((hI1.below hb (Nat.le_refl _)).more hb.size) hnc hc hok (ordT_lt top hk) hy)
  have HRL : Hid (∀ i, i ≤ m.h → (rowsUp m packed top i).length ≤ 18 + i * 1100) := Lib.hid (rowsUp_len hok packed top)
  have HSTEP : Hid (∀ k, rowsUp m packed top (k + 1) = rowsUp m packed top k ++ putRow packed m.z (turnedT m.z (rowT m.w m.z m.d (ordT m.h top k)))) := Lib.hid (rowsUp_step m packed top)
  have HLN : Hid (∀ k, k < m.h → (turnedT m.z (rowT m.w m.z m.d (ordT m.h top k))).length ≤ 1024) := Lib.hid fun k hk => by
    rw [turnedT_len, row_len hok (ordT_lt top hk)]
    exact Nat.le_trans (Nat.mul_le_mul hok.w2 (show m.z ≤ 4 by have := hok.z; omega)) (by omega)
  have HPK : Hid (∀ k, k < m.h → packR (turnedT m.z (rowT m.w m.z m.d (ordT m.h top k))) m.z = (packT m.z (turnedT m.z (rowT m.w m.z m.d (ordT m.h top k))), 0) ∧ (packT m.z (turnedT m.z (rowT m.w m.z m.d (ordT m.h top k)))).length ≤ 1100) := Lib.hid fun k hk => by
    have hr := row_len hok (ordT_lt top hk)
    have e : (turnedT m.z (rowT m.w m.z m.d (ordT m.h top k))).length = m.w * m.z := by rw [turnedT_len, hr]
    exact ⟨packR_yes hok.z (by rw [e]; exact Nat.mul_mod_left _ _), putRow_len (z := m.z) (m := m.w) true hok.z e hok.w2⟩
  have HDONE : Hid (rowsUp m packed top m.h ++ footT = putT m.w m.h m.z m.d packed top) := Lib.hid (rowsUp_done m packed top)
  have HR0 : Hid (rowsUp m packed top 0 = headT m.w m.h m.z packed top) := Lib.hid (by unfold rowsUp; simp)
  have FIN : Hid (∀ w', Below w.heap.size w w' → SE w (putT m.w m.h m.z m.d packed top) 0 (.returned (.tuple #[.string ⟨(putT m.w m.h m.z m.d packed top).toArray⟩, .int .i64 0])) w') := Lib.hid fun w' hb => ⟨rfl, hb⟩
  generalize hQ : SE w (putT m.w m.h m.z m.d packed top) 0 = Qp at FIN ⊢
  clear hQ
  have td8 : ((8 * m.z : Nat) : Int).tdiv 8 = (m.z : Int) := by rw [Int.tdiv_eq_ediv_of_nonneg (by omega)]; omega
  have hq : m.h ≤ 256 := hok.h2
  have hz4 : m.z ≤ 4 := by have := hok.z; omega
  unfold imV at *
  unfold SR at KH KR
  clear hb hI hI1 hok hlen
  obtain ⟨mm, hmm⟩ : ∃ x, x = m := ⟨_, rfl⟩
  rw [← hmm] at HRL HSTEP HDONE HR0
  generalize ((8 * m.z : Nat) : Int) = zz at *
  subst hmm
  generalize hmz : mm.z = z at *
  generalize hmw : mm.w = p at *
  generalize hmh : mm.h = q at *
  generalize hmd : mm.d = d at *
  clear hmz hmw hmh hmd
  have wz : IntKind.i64.wrap (z : Int) = (z : Int) := by rw [IntKind.wrap_i64]; omega
  have m0 := HS1.out.c 0 _ rfl
  have m1 := HS1.out.c 1 _ rfl
  have m2 := HS1.out.c 2 _ rfl
  have m3 := HS1.out.c 3 _ rfl
  cases packed
  · cases top
    · skip
      go_enter Try.func13, Try.ntmps13
      go_wp2_with fail
      generalize w.alloc (.cells #[.int .i64 (p : Int), .int .i64 (q : Int), .int .i64 zz, .slice A n c] 24) = W1 at *
      refine (KI.out _).mono ?_
      clear KI
      rintro e w2 ⟨rfl, hb2⟩
      have HS2 := Lib.hid (HS1.out.below hb2 hz1)
      have HB2 := Lib.hid hb2
      have hz2 : w.heap.size < w2.heap.size := Nat.lt_of_lt_of_le hz1 hb2.size
      clear hb2 m0 m1 m2 m3
      have m0 := HS2.out.c 0 _ rfl
      have m1 := HS2.out.c 1 _ rfl
      have m2 := HS2.out.c 2 _ rfl
      have m3 := HS2.out.c 3 _ rfl
      go_wp2_with fail
      refine (KH.out _).mono ?_
      clear KH
      rintro e w3 ⟨rfl, hb3⟩
      have HB3 := Lib.hid (HB2.out.trans (hb3.mono HB2.out.size))
      clear hb3 m0 m1 m2 m3 HS2 HB2 hz2
      go_wp2_with fail
      go_loopw [8, 9] (fun v i wr => ∃ k : Nat, k ≤ q ∧ i = .int .i64 (k : Int) ∧ v = .string ⟨(rowsUp mm false false k).toArray⟩ ∧ Hid (Below W1.heap.size W1 wr)) (fun _ i _ => q - (intOf i).toNat)
      case atStart => exact ⟨0, Nat.zero_le _, rfl, by rw [HR0.out], HB3⟩
      case round =>
        obtain ⟨k, hk, rfl, rfl, hbr⟩ := hrel
        clear HB3
        have HSr := Lib.hid (HS1.out.below hbr.out hz1)
        have m0 := HSr.out.c 0 _ rfl
        have m1 := HSr.out.c 1 _ rfl
        have m2 := HSr.out.c 2 _ rfl
        have m3 := HSr.out.c 3 _ rfl
        have hrl := HRL.out k hk
        by_cases hlt : k < q
        · have t0 : decide ((k : Int) < (q : Int)) = true := decide_eq_true (by omega)
          have t0n : decide (k < q) = true := decide_eq_true (by omega)
          have wq1 : IntKind.i64.wrap ((q : Int) - 1) = (q : Int) - 1 := by rw [IntKind.wrap_i64]; omega
          have wq2 : IntKind.i64.wrap ((q : Int) - 1 - (k : Int)) = (q : Int) - 1 - (k : Int) := by rw [IntKind.wrap_i64]; omega
          have wk1 : IntKind.i64.wrap ((k : Int) + 1) = (k : Int) + 1 := by rw [IntKind.wrap_i64]; omega
          have KRW := Lib.hid (fun W hb => KR.out k ((q : Int) - 1 - (k : Int)) W hlt (by (unfold ordT; rw [if_neg (by simp)]; omega)) hb)
          go_wp2_with fail
          refine (KRW.out _ hbr.out).mono ?_
          clear KRW
          rintro e w4 ⟨rfl, hb4⟩
          have HB4 := Lib.hid (hbr.out.trans (hb4.mono hbr.out.size))
          have HST := Lib.hid (HSTEP.out k)
          have hln := HLN.out k hlt
          have hl2 := HPK.out k hlt
          generalize hX : turnedT z (rowT p z d (ordT q false k)) = X at *
          generalize hR0 : rowsUp mm false false k = R0 at *
          generalize hR1 : rowsUp mm false false (k + 1) = R1 at *
          have HEQ := Lib.hid (⟨hX, hR0, hR1⟩ : _ ∧ _ ∧ _)
          clear hX hR0 hR1 hb4 m0 m1 m2 m3 HSr
          have HSr := Lib.hid (HS1.out.below HB4.out hz1)
          have m2 := HSr.out.c 2 _ rfl
          have e9 : R1 = R0 ++ X := HST.out
          have hcat : ∀ W, (Op.stringOp .add ⟨R0.toArray⟩ ⟨X.toArray⟩).run Try.prog W = .ok (.string ⟨R1.toArray⟩) W := fun W => by rw [e9]; exact run_cat R0 X (by omega) W
          clear e9
          go_wp2_with fail
          go_roundw
          case rel => exact ⟨k + 1, by omega, by go_num, by rw [HEQ.out.2.2], HB4⟩
          case measure => simp only [intOf]; omega
        · have t0 : decide ((k : Int) < (q : Int)) = false := decide_eq_false (by omega)
          have t0n : decide (k < q) = false := decide_eq_false (by omega)
          obtain rfl : k = q := by omega
          have hcat : ∀ W, (Op.stringOp .add ⟨(rowsUp mm false false k).toArray⟩ ⟨#[0, 0, 0, 0, 0, 0, 0, 0, 84, 82, 85, 69, 86, 73, 83, 73, 79, 78, 45, 88, 70, 73, 76, 69, 46, 0]⟩).run Try.prog W = .ok (.string ⟨(putT p k z d false false).toArray⟩) W := fun W => by
            rw [← HDONE.out]
            exact run_cat _ footT (by rw [show footT.length = 26 from rfl]; omega) W
          have HBZ := Lib.hid (HB.out.trans (hbr.out.mono HB.out.size))
          generalize rowsUp mm false false k = R0 at *
          go_wp2_with fail
          first
            | exact FIN.out _ HBZ.out
            | (go_ret2; exact FIN.out _ HBZ.out)
    · skip
      go_enter Try.func13, Try.ntmps13
      go_wp2_with fail
      generalize w.alloc (.cells #[.int .i64 (p : Int), .int .i64 (q : Int), .int .i64 zz, .slice A n c] 24) = W1 at *
      refine (KI.out _).mono ?_
      clear KI
      rintro e w2 ⟨rfl, hb2⟩
      have HS2 := Lib.hid (HS1.out.below hb2 hz1)
      have HB2 := Lib.hid hb2
      have hz2 : w.heap.size < w2.heap.size := Nat.lt_of_lt_of_le hz1 hb2.size
      clear hb2 m0 m1 m2 m3
      have m0 := HS2.out.c 0 _ rfl
      have m1 := HS2.out.c 1 _ rfl
      have m2 := HS2.out.c 2 _ rfl
      have m3 := HS2.out.c 3 _ rfl
      go_wp2_with fail
      refine (KH.out _).mono ?_
      clear KH
      rintro e w3 ⟨rfl, hb3⟩
      have HB3 := Lib.hid (HB2.out.trans (hb3.mono HB2.out.size))
      clear hb3 m0 m1 m2 m3 HS2 HB2 hz2
      go_wp2_with fail
      go_loopw [8, 9] (fun v i wr => ∃ k : Nat, k ≤ q ∧ i = .int .i64 (k : Int) ∧ v = .string ⟨(rowsUp mm false true k).toArray⟩ ∧ Hid (Below W1.heap.size W1 wr)) (fun _ i _ => q - (intOf i).toNat)
      case atStart => exact ⟨0, Nat.zero_le _, rfl, by rw [HR0.out], HB3⟩
      case round =>
        obtain ⟨k, hk, rfl, rfl, hbr⟩ := hrel
        clear HB3
        have HSr := Lib.hid (HS1.out.below hbr.out hz1)
        have m0 := HSr.out.c 0 _ rfl
        have m1 := HSr.out.c 1 _ rfl
        have m2 := HSr.out.c 2 _ rfl
        have m3 := HSr.out.c 3 _ rfl
        have hrl := HRL.out k hk
        by_cases hlt : k < q
        · have t0 : decide ((k : Int) < (q : Int)) = true := decide_eq_true (by omega)
          have t0n : decide (k < q) = true := decide_eq_true (by omega)
          have wq1 : IntKind.i64.wrap ((q : Int) - 1) = (q : Int) - 1 := by rw [IntKind.wrap_i64]; omega
          have wq2 : IntKind.i64.wrap ((q : Int) - 1 - (k : Int)) = (q : Int) - 1 - (k : Int) := by rw [IntKind.wrap_i64]; omega
          have wk1 : IntKind.i64.wrap ((k : Int) + 1) = (k : Int) + 1 := by rw [IntKind.wrap_i64]; omega
          have KRW := Lib.hid (fun W hb => KR.out k (k : Int) W hlt (by rfl) hb)
          go_wp2_with fail
          refine (KRW.out _ hbr.out).mono ?_
          clear KRW
          rintro e w4 ⟨rfl, hb4⟩
          have HB4 := Lib.hid (hbr.out.trans (hb4.mono hbr.out.size))
          have HST := Lib.hid (HSTEP.out k)
          have hln := HLN.out k hlt
          have hl2 := HPK.out k hlt
          generalize hX : turnedT z (rowT p z d (ordT q true k)) = X at *
          generalize hR0 : rowsUp mm false true k = R0 at *
          generalize hR1 : rowsUp mm false true (k + 1) = R1 at *
          have HEQ := Lib.hid (⟨hX, hR0, hR1⟩ : _ ∧ _ ∧ _)
          clear hX hR0 hR1 hb4 m0 m1 m2 m3 HSr
          have HSr := Lib.hid (HS1.out.below HB4.out hz1)
          have m2 := HSr.out.c 2 _ rfl
          have e9 : R1 = R0 ++ X := HST.out
          have hcat : ∀ W, (Op.stringOp .add ⟨R0.toArray⟩ ⟨X.toArray⟩).run Try.prog W = .ok (.string ⟨R1.toArray⟩) W := fun W => by rw [e9]; exact run_cat R0 X (by omega) W
          clear e9
          go_wp2_with fail
          go_roundw
          case rel => exact ⟨k + 1, by omega, by go_num, by rw [HEQ.out.2.2], HB4⟩
          case measure => simp only [intOf]; omega
        · have t0 : decide ((k : Int) < (q : Int)) = false := decide_eq_false (by omega)
          have t0n : decide (k < q) = false := decide_eq_false (by omega)
          obtain rfl : k = q := by omega
          have hcat : ∀ W, (Op.stringOp .add ⟨(rowsUp mm false true k).toArray⟩ ⟨#[0, 0, 0, 0, 0, 0, 0, 0, 84, 82, 85, 69, 86, 73, 83, 73, 79, 78, 45, 88, 70, 73, 76, 69, 46, 0]⟩).run Try.prog W = .ok (.string ⟨(putT p k z d false true).toArray⟩) W := fun W => by
            rw [← HDONE.out]
            exact run_cat _ footT (by rw [show footT.length = 26 from rfl]; omega) W
          have HBZ := Lib.hid (HB.out.trans (hbr.out.mono HB.out.size))
          generalize rowsUp mm false true k = R0 at *
          go_wp2_with fail
          first
            | exact FIN.out _ HBZ.out
            | (go_ret2; exact FIN.out _ HBZ.out)
  · cases top
    · skip
      go_enter Try.func13, Try.ntmps13
      go_wp2_with fail
      generalize w.alloc (.cells #[.int .i64 (p : Int), .int .i64 (q : Int), .int .i64 zz, .slice A n c] 24) = W1 at *
      refine (KI.out _).mono ?_
      clear KI
      rintro e w2 ⟨rfl, hb2⟩
      have HS2 := Lib.hid (HS1.out.below hb2 hz1)
      have HB2 := Lib.hid hb2
      have hz2 : w.heap.size < w2.heap.size := Nat.lt_of_lt_of_le hz1 hb2.size
      clear hb2 m0 m1 m2 m3
      have m0 := HS2.out.c 0 _ rfl
      have m1 := HS2.out.c 1 _ rfl
      have m2 := HS2.out.c 2 _ rfl
      have m3 := HS2.out.c 3 _ rfl
      go_wp2_with fail
      refine (KH.out _).mono ?_
      clear KH
      rintro e w3 ⟨rfl, hb3⟩
      have HB3 := Lib.hid (HB2.out.trans (hb3.mono HB2.out.size))
      clear hb3 m0 m1 m2 m3 HS2 HB2 hz2
      go_wp2_with fail
      go_loopw [8, 9] (fun v i wr => ∃ k : Nat, k ≤ q ∧ i = .int .i64 (k : Int) ∧ v = .string ⟨(rowsUp mm true false k).toArray⟩ ∧ Hid (Below W1.heap.size W1 wr)) (fun _ i _ => q - (intOf i).toNat)
      case atStart => exact ⟨0, Nat.zero_le _, rfl, by rw [HR0.out], HB3⟩
      case round =>
        obtain ⟨k, hk, rfl, rfl, hbr⟩ := hrel
        clear HB3
        have HSr := Lib.hid (HS1.out.below hbr.out hz1)
        have m0 := HSr.out.c 0 _ rfl
        have m1 := HSr.out.c 1 _ rfl
        have m2 := HSr.out.c 2 _ rfl
        have m3 := HSr.out.c 3 _ rfl
        have hrl := HRL.out k hk
        by_cases hlt : k < q
        · have t0 : decide ((k : Int) < (q : Int)) = true := decide_eq_true (by omega)
          have t0n : decide (k < q) = true := decide_eq_true (by omega)
          have wq1 : IntKind.i64.wrap ((q : Int) - 1) = (q : Int) - 1 := by rw [IntKind.wrap_i64]; omega
          have wq2 : IntKind.i64.wrap ((q : Int) - 1 - (k : Int)) = (q : Int) - 1 - (k : Int) := by rw [IntKind.wrap_i64]; omega
          have wk1 : IntKind.i64.wrap ((k : Int) + 1) = (k : Int) + 1 := by rw [IntKind.wrap_i64]; omega
          have KRW := Lib.hid (fun W hb => KR.out k ((q : Int) - 1 - (k : Int)) W hlt (by (unfold ordT; rw [if_neg (by simp)]; omega)) hb)
          go_wp2_with fail
          refine (KRW.out _ hbr.out).mono ?_
          clear KRW
          rintro e w4 ⟨rfl, hb4⟩
          have HB4 := Lib.hid (hbr.out.trans (hb4.mono hbr.out.size))
          have HST := Lib.hid (HSTEP.out k)
          have hln := HLN.out k hlt
          have hl2 := HPK.out k hlt
          generalize hX : turnedT z (rowT p z d (ordT q false k)) = X at *
          generalize hR0 : rowsUp mm true false k = R0 at *
          generalize hR1 : rowsUp mm true false (k + 1) = R1 at *
          have HEQ := Lib.hid (⟨hX, hR0, hR1⟩ : _ ∧ _ ∧ _)
          clear hX hR0 hR1 hb4 m0 m1 m2 m3 HSr
          have HSr := Lib.hid (HS1.out.below HB4.out hz1)
          have m2 := HSr.out.c 2 _ rfl
          have KP := Lib.hid (fun W => packref_any X z W (by omega))
          rw [hl2.1] at KP
          unfold SE at KP
          dsimp only at KP
          have hl3 := hl2.2
          have e9 : R1 = R0 ++ packT z X := HST.out
          clear hl2 HST
          generalize packT z X = P9 at *
          have hcat : ∀ W, (Op.stringOp .add ⟨R0.toArray⟩ ⟨P9.toArray⟩).run Try.prog W = .ok (.string ⟨R1.toArray⟩) W := fun W => by rw [e9]; exact run_cat R0 P9 (by omega) W
          clear e9
          go_wp2_with fail
          refine (KP.out _).mono ?_
          clear KP
          rintro e w5 ⟨rfl, hb5⟩
          have HB5 := Lib.hid (HB4.out.trans (hb5.mono HB4.out.size))
          clear hb5 m2
          go_wp2_with fail
          go_roundw
          case rel => exact ⟨k + 1, by omega, by go_num, by rw [HEQ.out.2.2], HB5⟩
          case measure => simp only [intOf]; omega
        · have t0 : decide ((k : Int) < (q : Int)) = false := decide_eq_false (by omega)
          have t0n : decide (k < q) = false := decide_eq_false (by omega)
          obtain rfl : k = q := by omega
          have hcat : ∀ W, (Op.stringOp .add ⟨(rowsUp mm true false k).toArray⟩ ⟨#[0, 0, 0, 0, 0, 0, 0, 0, 84, 82, 85, 69, 86, 73, 83, 73, 79, 78, 45, 88, 70, 73, 76, 69, 46, 0]⟩).run Try.prog W = .ok (.string ⟨(putT p k z d true false).toArray⟩) W := fun W => by
            rw [← HDONE.out]
            exact run_cat _ footT (by rw [show footT.length = 26 from rfl]; omega) W
          have HBZ := Lib.hid (HB.out.trans (hbr.out.mono HB.out.size))
          generalize rowsUp mm true false k = R0 at *
          go_wp2_with fail
          first
            | exact FIN.out _ HBZ.out
            | (go_ret2; exact FIN.out _ HBZ.out)
    · skip
      go_enter Try.func13, Try.ntmps13
      go_wp2_with fail
      generalize w.alloc (.cells #[.int .i64 (p : Int), .int .i64 (q : Int), .int .i64 zz, .slice A n c] 24) = W1 at *
      refine (KI.out _).mono ?_
      clear KI
      rintro e w2 ⟨rfl, hb2⟩
      have HS2 := Lib.hid (HS1.out.below hb2 hz1)
      have HB2 := Lib.hid hb2
      have hz2 : w.heap.size < w2.heap.size := Nat.lt_of_lt_of_le hz1 hb2.size
      clear hb2 m0 m1 m2 m3
      have m0 := HS2.out.c 0 _ rfl
      have m1 := HS2.out.c 1 _ rfl
      have m2 := HS2.out.c 2 _ rfl
      have m3 := HS2.out.c 3 _ rfl
      go_wp2_with fail
      refine (KH.out _).mono ?_
      clear KH
      rintro e w3 ⟨rfl, hb3⟩
      have HB3 := Lib.hid (HB2.out.trans (hb3.mono HB2.out.size))
      clear hb3 m0 m1 m2 m3 HS2 HB2 hz2
      go_wp2_with fail
      go_loopw [8, 9] (fun v i wr => ∃ k : Nat, k ≤ q ∧ i = .int .i64 (k : Int) ∧ v = .string ⟨(rowsUp mm true true k).toArray⟩ ∧ Hid (Below W1.heap.size W1 wr)) (fun _ i _ => q - (intOf i).toNat)
      case atStart => exact ⟨0, Nat.zero_le _, rfl, by rw [HR0.out], HB3⟩
      case round =>
        obtain ⟨k, hk, rfl, rfl, hbr⟩ := hrel
        clear HB3
        have HSr := Lib.hid (HS1.out.below hbr.out hz1)
        have m0 := HSr.out.c 0 _ rfl
        have m1 := HSr.out.c 1 _ rfl
        have m2 := HSr.out.c 2 _ rfl
        have m3 := HSr.out.c 3 _ rfl
        have hrl := HRL.out k hk
        by_cases hlt : k < q
        · have t0 : decide ((k : Int) < (q : Int)) = true := decide_eq_true (by omega)
          have t0n : decide (k < q) = true := decide_eq_true (by omega)
          have wq1 : IntKind.i64.wrap ((q : Int) - 1) = (q : Int) - 1 := by rw [IntKind.wrap_i64]; omega
          have wq2 : IntKind.i64.wrap ((q : Int) - 1 - (k : Int)) = (q : Int) - 1 - (k : Int) := by rw [IntKind.wrap_i64]; omega
          have wk1 : IntKind.i64.wrap ((k : Int) + 1) = (k : Int) + 1 := by rw [IntKind.wrap_i64]; omega
          have KRW := Lib.hid (fun W hb => KR.out k (k : Int) W hlt (by rfl) hb)
          go_wp2_with fail
          refine (KRW.out _ hbr.out).mono ?_
          clear KRW
          rintro e w4 ⟨rfl, hb4⟩
          have HB4 := Lib.hid (hbr.out.trans (hb4.mono hbr.out.size))
          have HST := Lib.hid (HSTEP.out k)
          have hln := HLN.out k hlt
          have hl2 := HPK.out k hlt
          generalize hX : turnedT z (rowT p z d (ordT q true k)) = X at *
          generalize hR0 : rowsUp mm true true k = R0 at *
          generalize hR1 : rowsUp mm true true (k + 1) = R1 at *
          have HEQ := Lib.hid (⟨hX, hR0, hR1⟩ : _ ∧ _ ∧ _)
          clear hX hR0 hR1 hb4 m0 m1 m2 m3 HSr
          have HSr := Lib.hid (HS1.out.below HB4.out hz1)
          have m2 := HSr.out.c 2 _ rfl
          have KP := Lib.hid (fun W => packref_any X z W (by omega))
          rw [hl2.1] at KP
          unfold SE at KP
          dsimp only at KP
          have hl3 := hl2.2
          have e9 : R1 = R0 ++ packT z X := HST.out
          clear hl2 HST
          generalize packT z X = P9 at *
          have hcat : ∀ W, (Op.stringOp .add ⟨R0.toArray⟩ ⟨P9.toArray⟩).run Try.prog W = .ok (.string ⟨R1.toArray⟩) W := fun W => by rw [e9]; exact run_cat R0 P9 (by omega) W
          clear e9
          go_wp2_with fail
          refine (KP.out _).mono ?_
          clear KP
          rintro e w5 ⟨rfl, hb5⟩
          have HB5 := Lib.hid (HB4.out.trans (hb5.mono HB4.out.size))
          clear hb5 m2
          go_wp2_with fail
          go_roundw
          case rel => exact ⟨k + 1, by omega, by go_num, by rw [HEQ.out.2.2], HB5⟩
          case measure => simp only [intOf]; omega
        · have t0 : decide ((k : Int) < (q : Int)) = false := decide_eq_false (by omega)
          have t0n : decide (k < q) = false := decide_eq_false (by omega)
          obtain rfl : k = q := by omega
          have hcat : ∀ W, (Op.stringOp .add ⟨(rowsUp mm true true k).toArray⟩ ⟨#[0, 0, 0, 0, 0, 0, 0, 0, 84, 82, 85, 69, 86, 73, 83, 73, 79, 78, 45, 88, 70, 73, 76, 69, 46, 0]⟩).run Try.prog W = .ok (.string ⟨(putT p k z d true true).toArray⟩) W := fun W => by
            rw [← HDONE.out]
            exact run_cat _ footT (by rw [show footT.length = 26 from rfl]; omega) W
          have HBZ := Lib.hid (HB.out.trans (hbr.out.mono HB.out.size))
          generalize rowsUp mm true true k = R0 at *
          go_wp2_with fail
          first
            | exact FIN.out _ HBZ.out
            | (go_ret2; exact FIN.out _ HBZ.out)
theorem putref_any (p q b : Int) (A : Option Addr) (n c : Nat) (d : List UInt8) (packed top : Bool) (w : World) (hI : Byts w w.heap.size A n d) (hnc : n ≤ c) (hc : c ≤ 9223372036854775807) :
    Calls Try.prog 13 #[imV p q b A n c, .bool packed, .bool top] w (SE w (putR p q b d packed top).1 (putR p q b d packed top).2) := by
  cases h : isT p q b n with
  | false =>
    rw [putR_no (by rw [hI.length]; exact h)]
    exact putref_no p q b A n c packed top w hI.len h
  | true =>
    obtain ⟨m, hm, rfl, rfl, rfl, rfl⟩ := isT_nat hI.length h
    rw [putR_ok hm]
    exact putref_yes m A n c packed top w hI hnc hc hm
end Go.Proofs.Ytfkkppagbhllgaa
