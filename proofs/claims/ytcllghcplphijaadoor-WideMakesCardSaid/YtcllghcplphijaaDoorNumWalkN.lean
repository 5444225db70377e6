/-
  THE STEPS OF limewashref01.Number.
-/
import Derived.Test.YtcllghcplphijaaDoorNumWalkT
import Derived.Test.YtcllghcplphijaaDoorNumWalkD
import Derived.Test.YtcllghcplphijaaDoorWideWalkB
set_option linter.unusedVariables false
set_option linter.unusedSimpArgs false
set_option maxRecDepth 8000
namespace Go.Proofs.YtcllghcplphijaaDoor
open Go.RowKit

/-- a Num is handed back, its side told -/
def NumB (w : World) (b : Bool) (x : Int) (e : Ending) (w' : World) : Prop :=
  ∃ A n c, e = .returned (.agg #[.bool b, .slice A n c]) ∧ NumAt w' w'.heap.size A n c x ∧ (∀ ad, A = some ad → 0 < n → w.heap.size ≤ ad.block) ∧ Below w.heap.size w w'
theorem NumRes.toB {w : World} {x : Int} {b : Bool} (hb : b = decide (x < 0)) : ∀ e w', NumRes w 0 x e w' → NumB w b x e w' := by
  rintro e w' ⟨A, n, c, rfl, h1, h2, h3⟩
  exact ⟨A, n, c, by rw [hb], h1, fun ad e h0 => (h2 ad e h0).elim (fun h => absurd h (Nat.not_lt_zero _)) id, h3⟩
theorem NumB.toRes {w : World} {x : Int} {b : Bool} (hb : b = decide (x < 0)) {e w'} (h : NumB w b x e w') : NumRes w 0 x e w' := by
  obtain ⟨A, n, c, rfl, h1, h2, h3⟩ := h
  exact ⟨A, n, c, by rw [hb], h1, fun ad e h0 => .inr (h2 ad e h0), h3⟩

theorem ofint_b (x : Int) (b : Bool) (w : World) (hx : i64b x) (hb : b = decide (x < 0)) : Calls Tryd.prog 30 #[.int .i64 x] w (NumB w b x) :=
  (ofint_any x 0 w hx).mono (NumRes.toB hb)
theorem times_b (A1 A2 : Option Addr) (n1 c1 n2 c2 : Nat) (x y : Int) (b1 b2 b : Bool) (w : World) (h1 : NumAt w w.heap.size A1 n1 c1 x) (h2 : NumAt w w.heap.size A2 n2 c2 y) (hl1 : n1 ≤ 1000) (hl2 : n2 ≤ 1000) (e1 : b1 = decide (x < 0)) (e2 : b2 = decide (y < 0)) (eb : b = decide (x * y < 0)) :
    Calls Tryd.prog 41 #[.agg #[.bool b1, .slice A1 n1 c1], .agg #[.bool b2, .slice A2 n2 c2]] w (NumB w b (x * y)) := by
  subst e1; subst e2
  exact (times_any _ _ A1 A2 n1 c1 n2 c2 x y w h1 h2 (Nat.le_refl _) (Nat.le_refl _) hl1 hl2).mono (NumRes.toB eb)
theorem sum_b (A1 A2 : Option Addr) (n1 c1 n2 c2 : Nat) (x y : Int) (b1 b2 b : Bool) (w : World) (h1 : NumAt w w.heap.size A1 n1 c1 x) (h2 : NumAt w w.heap.size A2 n2 c2 y) (hl1 : n1 ≤ 1000) (hl2 : n2 ≤ 1000) (e1 : b1 = decide (x < 0)) (e2 : b2 = decide (y < 0)) (eb : b = decide (x + y < 0)) :
    Calls Tryd.prog 34 #[.agg #[.bool b1, .slice A1 n1 c1], .agg #[.bool b2, .slice A2 n2 c2]] w (NumB w b (x + y)) := by
  subst e1; subst e2
  exact (sum_any _ _ 0 A1 A2 n1 c1 n2 c2 x y w h1 h2 (Nat.le_refl _) (Nat.le_refl _) hl1 hl2).mono (NumRes.toB eb)
theorem NumAt.few {w : World} {B n c : Nat} {A : Option Addr} {x : Int} (h : NumAt w B A n c x) (hx : x.natAbs < 10 ^ 100) : n ≤ 1000 := Nat.le_trans (h.le hx) (by decide)
theorem NumAt.few64 {w : World} {B n c : Nat} {A : Option Addr} {x : Int} (h : NumAt w B A n c x) (hx : i64b x) : n ≤ 1000 := by
  unfold i64b at hx
  exact h.few (Nat.lt_of_lt_of_le (show x.natAbs < 10 ^ 19 by omega) (Nat.pow_le_pow_right (by decide) (by decide)))

set_option maxHeartbeats 3200000 in
theorem number_b (a : Pt) (b : Bool) (w : World) (ha : a.b) (hb : b = decide (wval a < 0)) : Calls Tryd.prog 28 #[ptV a] w (NumB w b (wval a)) := by
  obtain ⟨x, y⟩ := a
  obtain ⟨hx, hy⟩ := ha
  simp only at hx hy
  have hv : wval ⟨x, y⟩ = x * 1000000000000000000 + y := rfl
  rw [hv] at hb ⊢
  obtain ⟨b1, e1⟩ : ∃ b, b = decide (x < 0) := ⟨_, rfl⟩
  obtain ⟨b2, e2⟩ : ∃ b, b = decide ((1000000000000000000 : Int) < 0) := ⟨_, rfl⟩
  obtain ⟨b3, e3⟩ : ∃ b, b = decide (x * 1000000000000000000 < 0) := ⟨_, rfl⟩
  obtain ⟨b4, e4⟩ : ∃ b, b = decide (y < 0) := ⟨_, rfl⟩
  have O1 := Lib.hid (fun W => ofint_b x b1 W hx e1)
  have O2 := Lib.hid (fun W => ofint_b 1000000000000000000 b2 W (by unfold i64b; omega) e2)
  have O3 := Lib.hid (fun W => ofint_b y b4 W hy e4)
  have TM := Lib.hid (fun W A1 n1 c1 A2 n2 c2 (h1 : NumAt W W.heap.size A1 n1 c1 x) (h2 : NumAt W W.heap.size A2 n2 c2 1000000000000000000) => times_b A1 A2 n1 c1 n2 c2 x 1000000000000000000 b1 b2 b3 W h1 h2 (h1.few64 hx) (h2.few64 (by unfold i64b; omega)) e1 e2 e3)
  have SM := Lib.hid (fun W A1 n1 c1 A2 n2 c2 (h1 : NumAt W W.heap.size A1 n1 c1 (x * 1000000000000000000)) (h2 : NumAt W W.heap.size A2 n2 c2 y) => sum_b A1 A2 n1 c1 n2 c2 (x * 1000000000000000000) y b3 b4 b W h1 h2 (h1.few (by
    unfold i64b at hx
    exact Nat.lt_of_lt_of_le (show (x * 1000000000000000000).natAbs < 10 ^ 40 by omega) (Nat.pow_le_pow_right (by decide) (by decide)))) (h2.few64 hy) e3 e4 hb)
  clear e1 e2 e3 e4 hb hx hy hv
  generalize x * 1000000000000000000 + y = z at SM ⊢
  generalize x * 1000000000000000000 = z1 at TM SM
  unfold ptV
  simp only
  obtain ⟨s1, s2, hb, hz⟩ := two_slots w [.int .i64 x, .int .i64 y] [.bool false, .slice none 0 0] #[.int .i64 x, .int .i64 y] #[.bool false, .slice none 0 0] 23 48 rfl rfl
  go_enter Tryd.func28, Tryd.ntmps28
  go_wp2_with fail
  generalize hW : (w.alloc (.cells #[.int .i64 x, .int .i64 y] 23)).alloc (.cells #[.bool false, .slice none 0 0] 48) = V at s1 s2 hb hz ⊢
  clear hW
  have k0 := s1.c 0 _ rfl
  have k1 := s1.c 1 _ rfl
  have HB := Lib.hid hb; clear hb
  have S2 := Lib.hid s2; clear s2
  go_region_held3 (fun w' => w'.cell? ⟨w.heap.size, 0, none⟩ = some (.int .i64 x) ∧ w'.cell? ⟨w.heap.size, 1, none⟩ = some (.int .i64 y))
    (refine ⟨?_, ?_⟩ <;> (first | with_reducible assumption | (rw [hby.cell (by (try dsimp only); omega)]; with_reducible assumption) | (go_keep; done)))
    (first
      | (go_at_call 30; refine (O1.out _).mono ?_; clear O1; rintro e w1 ⟨A1, n1, c1, rfl, hN1, hp1, hx1⟩; have hby : Below V.heap.size V w1 := (Below.refl _ V).drew.trans (hx1.mono (by simp)))
      | (go_at_call 30; refine (O2.out _).mono ?_; clear O2; rintro e w2 ⟨A2, n2, c2, rfl, hN2, hp2, hx2⟩; have hby : Below V.heap.size V w2 := hby.trans (hx2.mono hby.size); have hM1 := (hN1.below hx2 (Nat.le_refl _)).more hx2.size)
      | (go_at_call 41; refine (TM.out _ _ _ _ _ _ _ hM1 hN2).mono ?_; clear TM; rintro e w3 ⟨A3, n3, c3, rfl, hN3, hp3, hx3⟩; have hby : Below V.heap.size V w3 := hby.trans (hx3.mono hby.size))
      | (go_at_call 30; refine (O3.out _).mono ?_; clear O3; rintro e w4 ⟨A4, n4, c4, rfl, hN4, hp4, hx4⟩; have hby : Below V.heap.size V w4 := hby.trans (hx4.mono hby.size); have hM3 := (hN3.below hx4 (Nat.le_refl _)).more hx4.size)
      | (go_at_call 34; refine (SM.out _ _ _ _ _ _ _ hM3 hN4).mono ?_; clear SM; rintro e w5 ⟨A5, n5, c5, rfl, hN5, hp5, hx5⟩; have hbz := hby; have hby : Below V.heap.size V w5 := hby.trans (hx5.mono hby.size); have y0 := (S2.out.below hby (by omega)).c 0 _ rfl; have y1 := (S2.out.below hby (by omega)).c 1 _ rfl; have y2 := (S2.out.below hby (by omega)).f 0; have y3 := (S2.out.below hby (by omega)).f 1))
  go_wp2_with fail
  have hz5 := hx5.size
  have hz6 := hby.size
  have hz7 := hbz.size
  refine bodyPost_ret (v := .agg #[.bool b, .slice A5 n5 c5]) (by simp [results, Tryd.results28, go_sem, y0, y1]) rfl ?_
  refine ⟨A5, n5, c5, rfl, ((hN5.set _ _ fun ad e h0 => ?_).set _ _ fun ad e h0 => ?_).more (by simp), fun ad e h0 => by have := hp5 ad e h0; omega, ((HB.out.trans (hby.mono (by omega))).setCell (by simp only; omega) _).setCell (by simp only; omega) _⟩
  all_goals
    have := hp5 ad e h0
    simp only
    omega

/-- digits from a place on, so many -/
theorem dig_part {X f m k : Nat} (hk : k < m) : dig (X / 10 ^ f % 10 ^ m) k = dig X (f + k) := by
  unfold dig
  have e : 10 ^ m = 10 ^ k * (10 * 10 ^ (m - k - 1)) := by
    rw [← Nat.pow_succ', ← Nat.pow_add]; congr 1; omega
  rw [e, Nat.mod_mul_right_div_self, Nat.mod_mul_right_mod, Nat.div_div_eq_div_mul, ← Nat.pow_add]

theorem value_any (B : Nat) (A : Option Addr) (n c X f m : Nat) (w : World) (h : Ints w B A n (digs X)) (hB : B ≤ w.heap.size) (hf : f ≤ 100) (hm : m ≤ 100) (hn : n ≤ 1000) (hV : X / 10 ^ f % 10 ^ m ≤ 9000000000000000000) :
    Calls Tryd.prog 48 #[.slice A n c, .int .i64 f, .int .i64 m] w fun e w' => e = .returned (.int .i64 ((X / 10 ^ f % 10 ^ m : Nat) : Int)) ∧ w' = w := by
  have hlen := Lib.hid h.length
  obtain ⟨V, hVe⟩ : ∃ V, V = X / 10 ^ f % 10 ^ m := ⟨_, rfl⟩
  rw [← hVe] at hV ⊢
  have HDG : Hid (∀ k, k < m → dig V k = dig X (f + k)) := Lib.hid fun k hk => by rw [hVe]; exact dig_part hk
  have HV0 : Hid (V / 10 ^ m = 0) := Lib.hid (by rw [hVe]; exact Nat.div_eq_of_lt (Nat.mod_lt _ (Nat.pow_pos (by decide))))
  clear hVe
  go_enter Tryd.func48, Tryd.ntmps48
  go_wp2_with fail
  go_loop [7, 8] (fun u i => ∃ (k : Nat) (z : Int), k ≤ m ∧ z = (f : Int) + k - 1 ∧ i = .int .i64 z ∧ u = .int .i64 ((V / 10 ^ k : Nat) : Int)) (fun _ i => (intOf i + 1 - f).toNat)
  case atStart => exact ⟨m, _, Nat.le_refl _, rfl, rfl, by rw [HV0.out]; rfl⟩
  case round =>
    obtain ⟨k, z, hk, hz, rfl, rfl⟩ := hrel
    rcases Nat.eq_zero_or_pos k with rfl | hk0
    · have t0 : decide ((f : Int) ≤ z) = false := decide_eq_false (by omega)
      have hz1 : z < f := by omega
      have e0 : V / 10 ^ 0 = V := by simp
      rw [e0]
      clear hz e0
      go_wp2_with fail
      go_ret
      exact ⟨rfl, rfl⟩
    · obtain ⟨j, rfl⟩ : ∃ j, k = j + 1 := ⟨k - 1, by omega⟩
      have HS := Lib.hid (div_pow_step V j)
      have hj : dig V j = dig X (f + j) := HDG.out j (by omega)
      have hd9 := dig_le X (f + j)
      rw [hj] at HS
      obtain ⟨u, hu⟩ : ∃ u, u = V / 10 ^ (j + 1) := ⟨_, rfl⟩
      rw [← hu] at HS ⊢
      have hVj : V / 10 ^ j ≤ V := Nat.div_le_self _ _
      have hu1 : 10 * u ≤ 9000000000000000000 := by have := HS.out; omega
      have hu2 : dig X (f + j) + 10 * u ≤ 9000000000000000000 := by have := HS.out; omega
      have hz1 : (f : Int) ≤ z := by omega
      have hz2 : z ≤ 300 := by omega
      have hz3 : z.toNat = f + j := by omega
      have HZ : Hid (z - 1 = (f : Int) + j - 1) := Lib.hid (by omega)
      have HZ2 : Hid (z = (f : Int) + j) := Lib.hid (by omega)
      have t0 : decide ((f : Int) ≤ z) = true := decide_eq_true hz1
      clear hz hu hVj hj
      by_cases hfj : f + j < n
      · have t1 : decide (z < (n : Int)) = true := decide_eq_true (by have := HZ2.out; omega)
        obtain ⟨ad, d, rfl, hb, hx, hm', hc, _, _⟩ := h.get hfj
        have hd : d = dig X (f + j) := by rw [digs_get _ _ (by rw [hlen.out]; exact hfj)] at hx; injection hx with hx; exact hx.symm
        have hd0 : 0 ≤ d ∧ d ≤ 9 := by omega
        have HD := Lib.hid hd
        have hz4 : z < (n : Int) := by have := HZ2.out; omega
        clear hx hm' hd
        go_wp2_with fail
        go_round
        case rel => exact ⟨j, z - 1, by omega, HZ.out, rfl, by have h1 := HS.out; have h2 := HD.out; rw [h1, h2]; go_num⟩
        case measure => simp only [intOf]; have := HZ2.out; omega
      · have t1 : decide (z < (n : Int)) = false := decide_eq_false (by have := HZ2.out; omega)
        have hd0 : dig X (f + j) = 0 := dig_beyond (by rw [hlen.out]; omega)
        have HD := Lib.hid hd0
        clear hd0
        go_wp2_with fail
        go_round
        case rel => exact ⟨j, z - 1, by omega, HZ.out, rfl, by have h1 := HS.out; have h2 := HD.out; rw [h1, h2]; go_num⟩
        case measure => simp only [intOf]; have := HZ2.out; omega
end Go.Proofs.YtcllghcplphijaaDoor
