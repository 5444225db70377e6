/-
  THE WALKS OF limewashref28.gap AND Far.
-/
import Derived.Test.YtmkmmkpigpbkiaaDilWalkA
import Derived.Test.YtmkmmkpigpbkiaaSlot
import Derived.Test.YtmkmmkpigpbkiaaNumWalkC
set_option linter.unusedVariables false
set_option linter.unusedSimpArgs false
namespace Go.Proofs.Ytmkmmkpigpbkiaa
open Go.RowKit

/-- what has been read of the digits, at most a thousand -/
def capD (s k : Nat) : Int := min ((s / 10 ^ k : Nat) : Int) 1000
theorem capD_step (s k : Nat) : capD s k = min (10 * capD s (k + 1) + (dig s k : Nat)) 1000 := by
  unfold capD
  have h := div_pow_step s k
  have h2 := dig_le s k
  omega
theorem capD_range (s k : Nat) : 0 ≤ capD s k ∧ capD s k ≤ 1000 := by
  unfold capD
  have := Int.natCast_nonneg (s / 10 ^ k)
  omega

set_option maxHeartbeats 1600000 in
theorem rgap_any (a b : Int) (w : World) (ha : i64b a) (hb : i64b b) :
    Calls Try.prog 24 #[.int .i64 a, .int .i64 b] w fun e w' => e = .returned (.int .i64 (gapS a b)) ∧ Below w.heap.size w w' := by
  have H1 := Lib.hid (ofint_any a 0 w ha)
  have H2 := Lib.hid (fun W => ofint_any b 0 W hb)
  have hg : gapS a b = capD (a + -b).natAbs 0 := by
    unfold gapS capD
    simp only [Nat.pow_zero, Nat.div_one]
    split <;> omega
  have O : Hid (∀ (W : World) (A2 : Option Addr) (n2 c2 : Nat), NumAt W W.heap.size A2 n2 c2 b → Calls Try.prog 30 #[.agg #[.bool (decide (b < 0)), .slice A2 n2 c2]] W (NumSame W W.heap.size A2 c2 (-b))) := Lib.hid fun W A2 n2 c2 h => other_any W.heap.size A2 n2 c2 b W h (Nat.le_refl _)
  have hz19 : (-b).natAbs < 10 ^ 19 := by obtain ⟨b1, b2⟩ := hb; omega
  have hs19 : (a + -b).natAbs < 10 ^ 20 := by obtain ⟨b1, b2⟩ := hb; obtain ⟨a1, a2⟩ := ha; omega
  have ha19 : a.natAbs < 10 ^ 19 := by obtain ⟨a1, a2⟩ := ha; omega
  generalize -b = z at O hg hz19 hs19
  have S : Hid (∀ (W : World) (A1 A3 : Option Addr) (n1 c1 n3 c3 : Nat), NumAt W W.heap.size A1 n1 c1 a → NumAt W W.heap.size A3 n3 c3 z → Calls Try.prog 28 #[.agg #[.bool (decide (a < 0)), .slice A1 n1 c1], .agg #[.bool (decide (z < 0)), .slice A3 n3 c3]] W (NumRes W 0 (a + z))) := Lib.hid fun W A1 A3 n1 c1 n3 c3 h1 h3 =>
    sum_any W.heap.size W.heap.size 0 A1 A3 n1 c1 n3 c3 a z W h1 h3 (Nat.le_refl _) (Nat.le_refl _) (by have := h1.le ha19; omega) (by have := h3.le hz19; omega)
  have HG := Lib.hid hg; clear hg
  obtain ⟨s, hs⟩ : ∃ s, s = a + z := ⟨_, rfl⟩
  rw [← hs] at S HG hs19
  clear hs ha hb ha19 hz19
  rw [HG.out]
  clear HG
  go_enter Try.func24, Try.ntmps24
  go_wp2_with fail
  refine H1.out.mono ?_
  clear H1
  rintro e w1 ⟨A1, n1, c1, he1, hn1, _, hb1⟩
  subst he1
  go_wp2_with fail
  refine (H2.out w1).mono ?_
  clear H2
  rintro e w2 ⟨A2, n2, c2, he2, hn2, _, hb2⟩
  subst he2
  have hn1 := (hn1.below hb2 (Nat.le_refl _)).more hb2.size
  have hb2 := hb1.trans (hb2.mono hb1.size)
  clear hb1
  go_wp2_with fail
  refine (O.out w2 A2 n2 c2 hn2).mono ?_
  clear O
  rintro e w3 ⟨n3, rfl, hn3, hb3⟩
  have hn1 := (hn1.below hb3 (Nat.le_refl _)).more hb3.size
  have hn3 := hn3.more hb3.size
  have hb3 := hb2.trans (hb3.mono hb2.size)
  clear hb2 hn2
  go_wp2_with fail
  refine (S.out w3 A1 A2 n1 c1 n3 c2 hn1 hn3).mono ?_
  clear S hn1 hn3
  rintro e w4 ⟨A4, n4, c4, rfl, hn4, _, hb4⟩
  have hb4 := hb3.trans (hb4.mono hb3.size)
  clear hb3
  have hl4 : n4 ≤ 20 := hn4.le hs19
  have HLN := Lib.hid hn4.len
  have hrow := hn4.row
  clear hn4 hs19
  generalize decide (s < 0) = ds
  have hS4 := SlotN.new w4 [.bool ds, .slice A4 n4 c4] #[.bool ds, .slice A4 n4 c4] 54 rfl
  have hr5 := hrow.below ((Below.refl w4.heap.size w4).alloc (Nat.le_refl _) (.cells #[.bool ds, .slice A4 n4 c4] 54)) (Nat.le_refl _)
  have hb5 := hb4.alloc hb4.size (.cells #[.bool ds, .slice A4 n4 c4] 54)
  have s1 := hS4.c 1 _ rfl
  clear hrow hS4
  go_wp2_with fail
  go_loop [6, 7] (fun m i => ∃ (I : Int) (k : Nat), Hid (I = (k : Int) - 1) ∧ -1 ≤ I ∧ I < n4 ∧ k ≤ n4 ∧ i = .int .i64 I ∧ m = .int .i64 (capD s.natAbs k)) (fun _ i => (intOf i + 1).toNat)
  case atStart => exact ⟨(n4 : Int) - 1, n4, Lib.hid rfl, by omega, by omega, Nat.le_refl _, rfl, by unfold capD; rw [div_pow_len (by rw [HLN.out]; exact Nat.le_refl _)]; rfl⟩
  case round =>
    obtain ⟨I, k, hI, hI0, hI1, hk, rfl, rfl⟩ := hrel
    by_cases h0 : 0 ≤ I
    · have t0 : decide (0 ≤ I) = true := decide_eq_true h0
      obtain ⟨j, rfl⟩ : ∃ j, k = j + 1 := ⟨k - 1, by have := hI.out; omega⟩
      have hj : I.toNat = j := by have := hI.out; omega
      obtain ⟨ad, x, rfl, hb, hx, hm, hc, hlo, hhi⟩ := hr5.get (k := j) (by omega)
      rw [digs_get j _ (by rw [HLN.out]; omega)] at hx
      have hx := Option.some.inj hx
      have hd := dig_le s.natAbs j
      have hst := capD_step s.natAbs j
      have hrg := capD_range s.natAbs (j + 1)
      rw [hx] at hst
      rw [← hj] at hc
      obtain ⟨hrg1, hrg2⟩ := hrg
      have hx9 : 0 ≤ x ∧ x ≤ 9 := by omega
      obtain ⟨hx8, hx9⟩ := hx9
      generalize capD s.natAbs (j + 1) = N at hst hrg1 hrg2 ⊢
      have hif : (if 1000 < 10 * N + x then 1000 else 10 * N + x) = capD s.natAbs j := by rw [hst]; split <;> omega
      have HJ := Lib.hid hj; clear hj
      have HST := Lib.hid hst; clear hst hx hm hd
      go_wp2_with fail
      all_goals
        go_round
        case rel => exact ⟨I - 1, j, Lib.hid (by have := hI.out; omega), by omega, by omega, by omega, rfl, rfl⟩
        case measure => simp only [intOf]; omega
    · have t0 : decide (0 ≤ I) = false := decide_eq_false h0
      obtain rfl : k = 0 := by have := hI.out; omega
      go_wp2_with fail
      go_ret
      exact ⟨rfl, hb5⟩

/-- Two structs by value: far -/
theorem rfar_any (a b : Pt) (w : World) (ha : a.b) (hb : b.b) :
    Calls Try.prog 18 #[ptV a, ptV b] w fun e w' => e = .returned (.int .i64 (farS a b)) ∧ Below w.heap.size w w' := by
  obtain ⟨ax, ay⟩ := a
  obtain ⟨bx, by'⟩ := b
  obtain ⟨ha1, ha2⟩ := ha
  obtain ⟨hb1, hb2⟩ := hb
  simp only at ha1 ha2 hb1 hb2
  have r1 := gapS_range ax bx
  have r2 := gapS_range ay by'
  unfold ptV
  simp only [farS]
  obtain ⟨r11, r12⟩ := r1
  obtain ⟨r21, r22⟩ := r2
  have hB : Below w.heap.size w ((w.alloc (.cells #[.int .i64 ax, .int .i64 ay] 24)).alloc (.cells #[.int .i64 bx, .int .i64 by'] 24)) := ((Below.refl _ _).alloc (Nat.le_refl _) _).alloc (by simp) _
  have S1 := (SlotN.new w [.int .i64 ax, .int .i64 ay] #[.int .i64 ax, .int .i64 ay] 24 rfl).below ((Below.refl (w.heap.size + 1) _).alloc (by simp) (.cells #[.int .i64 bx, .int .i64 by'] 24)) (by omega)
  have S2 := SlotN.new (w.alloc (.cells #[.int .i64 ax, .int .i64 ay] 24)) [.int .i64 bx, .int .i64 by'] #[.int .i64 bx, .int .i64 by'] 24 rfl
  simp only [World.size_alloc] at S2
  have hsz : ((w.alloc (.cells #[.int .i64 ax, .int .i64 ay] 24)).alloc (.cells #[.int .i64 bx, .int .i64 by'] 24)).heap.size = w.heap.size + 2 := by simp
  have hmx : (if gapS ax bx < gapS ay by' then gapS ay by' else gapS ax bx) = max (gapS ax bx) (gapS ay by') := by split <;> omega
  go_enter Try.func18, Try.ntmps18
  go_wp2_with fail
  obtain ⟨W0, hW0⟩ : ∃ W0, W0 = (w.alloc (.cells #[.int .i64 ax, .int .i64 ay] 24)).alloc (.cells #[.int .i64 bx, .int .i64 by'] 24) := ⟨_, rfl⟩
  rw [← hW0] at hB S1 S2 hsz ⊢
  clear hW0
  have p0 := S1.c 0 _ rfl
  have p1 := S1.c 1 _ rfl
  have p2 := S2.c 0 _ rfl
  have p3 := S2.c 1 _ rfl
  go_region_held3 (fun w' => w'.cell? ⟨w.heap.size, 0, none⟩ = some (.int .i64 ax) ∧ w'.cell? ⟨w.heap.size, 1, none⟩ = some (.int .i64 ay) ∧ w'.cell? ⟨w.heap.size + 1, 0, none⟩ = some (.int .i64 bx) ∧ w'.cell? ⟨w.heap.size + 1, 1, none⟩ = some (.int .i64 by'))
    (refine ⟨?_, ?_, ?_, ?_⟩ <;> (first | with_reducible assumption | (rw [hby.cell (by (try dsimp only); omega)]; with_reducible assumption) | (go_keep; done)))
    ((go_at_call 24; refine (rgap_any _ _ _ (by assumption) (by assumption)).mono ?_; rintro e wx ⟨rfl, hbx⟩; have hby : Below W0.heap.size W0 wx := by first | exact hby.trans (hbx.mono hby.size) | exact (Below.refl _ W0).drew.trans (hbx.mono (by simp))))
  all_goals
    go_wp2_with fail
    go_ret
    exact ⟨rfl, hB.trans (hby.mono (by omega))⟩
end Go.Proofs.Ytmkmmkpigpbkiaa
