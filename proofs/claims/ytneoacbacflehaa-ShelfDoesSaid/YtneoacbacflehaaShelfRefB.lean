/-
  THE WALKS OF limewashref17: beside, Apart, inside, height.
-/
import Derived.Test.YtneoacbacflehaaShelfRefA
set_option linter.unusedVariables false
set_option linter.unusedSimpArgs false
namespace Go.Proofs.Ytneoacbacflehaa
open Go.RowKit

theorem beside_any (x n y m : Int) (w : World) (hx : i64b x) (hn : i64b n) (hy : i64b y) (hm : i64b m) :
    Calls Try.prog 37 #[.int .i64 x, .int .i64 n, .int .i64 y, .int .i64 m] w fun e w' => e = .returned (.bool (freeS x n y m)) ∧ Below w.heap.size w w' := by
  have O1 := Lib.hid (over_any x n y w hx hn hy)
  have O2 := Lib.hid (fun W => over_any y m x W hy hm hx)
  have HF : Hid (freeS x n y m = (decide (n ≤ 0) || decide (m ≤ 0) || decide (x + n ≤ y) || decide (y + m ≤ x))) := Lib.hid rfl
  generalize decide (x + n ≤ y) = p at O1 HF
  generalize decide (y + m ≤ x) = q at O2 HF
  cases h1 : decide (n ≤ 0) <;> cases h2 : decide (m ≤ 0)
  case false.false =>
    rw [h1, h2] at HF
    cases p
    · go_enter Try.func37, Try.ntmps37
      go_wp2_with fail
      refine O1.out.mono ?_
      rintro e w1 ⟨rfl, hb1⟩
      go_wp2_with fail
      refine (O2.out w1).mono ?_
      rintro e w2 ⟨rfl, hb2⟩
      cases q
      all_goals
        go_wp2_with fail
        go_ret
        exact ⟨ret_bool (by rw [HF.out]; rfl), hb1.trans (hb2.mono hb1.size)⟩
    · go_enter Try.func37, Try.ntmps37
      go_wp2_with fail
      refine O1.out.mono ?_
      rintro e w1 ⟨rfl, hb1⟩
      go_wp2_with fail
      go_ret
      exact ⟨ret_bool (by rw [HF.out]; rfl), hb1⟩
  all_goals
    rw [h1, h2] at HF
    go_enter Try.func37, Try.ntmps37
    go_wp2_with fail
    go_ret
    exact ⟨ret_bool (by rw [HF.out]; rfl), Below.refl _ _⟩

theorem rapart_any (a b : Rc) (w : World) (ha : a.b) (hb : b.b) :
    Calls Try.prog 22 #[.agg #[.int .i64 a.x, .int .i64 a.y, .int .i64 a.w, .int .i64 a.h], .agg #[.int .i64 b.x, .int .i64 b.y, .int .i64 b.w, .int .i64 b.h]] w fun e w' => e = .returned (.bool (apartS a b)) ∧ Below w.heap.size w w' := by
  obtain ⟨a1, a2, a3, a4⟩ := a
  obtain ⟨b1, b2, b3, b4⟩ := b
  obtain ⟨ha1, ha2, ha3, ha4⟩ := ha
  obtain ⟨hb1, hb2, hb3, hb4⟩ := hb
  simp only at *
  have F1 := Lib.hid (fun W => beside_any a1 a3 b1 b3 W ha1 ha3 hb1 hb3)
  have F2 := Lib.hid (fun W => beside_any a2 a4 b2 b4 W ha2 ha4 hb2 hb4)
  have HF : Hid (apartS ⟨a1, a2, a3, a4⟩ ⟨b1, b2, b3, b4⟩ = (freeS a1 a3 b1 b3 || freeS a2 a4 b2 b4)) := Lib.hid rfl
  generalize freeS a1 a3 b1 b3 = p at F1 HF
  generalize freeS a2 a4 b2 b4 = q at F2 HF
  clear ha1 ha2 ha3 ha4 hb1 hb2 hb3 hb4
  go_enter Try.func22, Try.ntmps22
  go_wp2_with fail
  refine (F1.out _).mono ?_
  rintro e w1 ⟨rfl, hb1⟩
  have HB := Lib.hid ((((Below.refl _ w).alloc (Nat.le_refl _) _).alloc (by simp) _).trans (hb1.mono (by simp; omega)))
  cases p
  · have r1 := ((RcAt.new w ⟨a1, a2, a3, a4⟩ 24).below ((Below.refl _ _).alloc (Nat.le_refl _) (.cells #[.int .i64 b1, .int .i64 b2, .int .i64 b3, .int .i64 b4] 24)) (by simp)).below hb1 (by simp; omega)
    have r2 := (RcAt.new (w.alloc (.cells #[.int .i64 a1, .int .i64 a2, .int .i64 a3, .int .i64 a4] 24)) ⟨b1, b2, b3, b4⟩ 24).below hb1 (by simp)
    rw [World.size_alloc] at r2
    have q0 : w1.cell? ⟨w.heap.size, 1, none⟩ = some (.int .i64 a2) := r1 1
    have q1 : w1.cell? ⟨w.heap.size, 3, none⟩ = some (.int .i64 a4) := r1 3
    have q2 : w1.cell? ⟨w.heap.size + 1, 1, none⟩ = some (.int .i64 b2) := r2 1
    have q3 : w1.cell? ⟨w.heap.size + 1, 3, none⟩ = some (.int .i64 b4) := r2 3
    clear r1 r2 hb1
    go_wp2_with fail
    refine (F2.out _).mono ?_
    rintro e w2 ⟨rfl, hb2⟩
    cases q
    all_goals
      go_wp2_with fail
      go_ret
      exact ⟨ret_bool (by rw [HF.out]; rfl), HB.out.trans (hb2.mono HB.out.size)⟩
  · clear hb1
    go_wp2_with fail
    go_ret
    exact ⟨ret_bool (by rw [HF.out]; rfl), HB.out⟩

theorem inside_any (ww h : Int) (r : Rc) (w : World) (hw : i64b ww) (hh : i64b h) (hr : r.b) :
    Calls Try.prog 34 #[.int .i64 ww, .int .i64 h, .agg #[.int .i64 r.x, .int .i64 r.y, .int .i64 r.w, .int .i64 r.h]] w fun e w' => e = .returned (.bool (insideS ww h r)) ∧ Below w.heap.size w w' := by
  obtain ⟨r1, r2, r3, r4⟩ := r
  obtain ⟨hr1, hr2, hr3, hr4⟩ := hr
  unfold i64b at hr1 hr2 hr3 hr4 hw hh
  simp only at *
  obtain ⟨hr11, hr12⟩ := hr1
  obtain ⟨hr21, hr22⟩ := hr2
  obtain ⟨hr31, hr32⟩ := hr3
  obtain ⟨hr41, hr42⟩ := hr4
  obtain ⟨hw1, hw2⟩ := hw
  obtain ⟨hh1, hh2⟩ := hh
  have HF : Hid (insideS ww h ⟨r1, r2, r3, r4⟩ = (decide (1 ≤ r3) && decide (1 ≤ r4) && decide (0 ≤ r1) && decide (0 ≤ r2) && decide (r3 ≤ ww) && decide (r4 ≤ h) && decide (r1 ≤ ww - r3) && decide (r2 ≤ h - r4))) := Lib.hid rfl
  by_cases c0 : 1 ≤ r3
  case neg =>
    have d0 : decide (1 ≤ r3) = false := decide_eq_false c0
    have HF' : Hid (insideS ww h ⟨r1, r2, r3, r4⟩ = false) := Lib.hid (by rw [HF.out, d0]; simp)
    clear HF
    go_enter Try.func34, Try.ntmps34
    go_wp2_with fail
    go_ret
    exact ⟨ret_bool (by rw [HF'.out]), (Below.refl _ _).alloc (Nat.le_refl _) _⟩
  have d0 : decide (1 ≤ r3) = true := decide_eq_true c0
  by_cases c1 : 1 ≤ r4
  case neg =>
    have d1 : decide (1 ≤ r4) = false := decide_eq_false c1
    have HF' : Hid (insideS ww h ⟨r1, r2, r3, r4⟩ = false) := Lib.hid (by rw [HF.out, d0, d1]; simp)
    clear HF
    go_enter Try.func34, Try.ntmps34
    go_wp2_with fail
    go_ret
    exact ⟨ret_bool (by rw [HF'.out]), (Below.refl _ _).alloc (Nat.le_refl _) _⟩
  have d1 : decide (1 ≤ r4) = true := decide_eq_true c1
  by_cases c2 : 0 ≤ r1
  case neg =>
    have d2 : decide (0 ≤ r1) = false := decide_eq_false c2
    have HF' : Hid (insideS ww h ⟨r1, r2, r3, r4⟩ = false) := Lib.hid (by rw [HF.out, d0, d1, d2]; simp)
    clear HF
    go_enter Try.func34, Try.ntmps34
    go_wp2_with fail
    go_ret
    exact ⟨ret_bool (by rw [HF'.out]), (Below.refl _ _).alloc (Nat.le_refl _) _⟩
  have d2 : decide (0 ≤ r1) = true := decide_eq_true c2
  by_cases c3 : 0 ≤ r2
  case neg =>
    have d3 : decide (0 ≤ r2) = false := decide_eq_false c3
    have HF' : Hid (insideS ww h ⟨r1, r2, r3, r4⟩ = false) := Lib.hid (by rw [HF.out, d0, d1, d2, d3]; simp)
    clear HF
    go_enter Try.func34, Try.ntmps34
    go_wp2_with fail
    go_ret
    exact ⟨ret_bool (by rw [HF'.out]), (Below.refl _ _).alloc (Nat.le_refl _) _⟩
  have d3 : decide (0 ≤ r2) = true := decide_eq_true c3
  by_cases c4 : r3 ≤ ww
  case neg =>
    have d4 : decide (r3 ≤ ww) = false := decide_eq_false c4
    have HF' : Hid (insideS ww h ⟨r1, r2, r3, r4⟩ = false) := Lib.hid (by rw [HF.out, d0, d1, d2, d3, d4]; simp)
    clear HF
    go_enter Try.func34, Try.ntmps34
    go_wp2_with fail
    go_ret
    exact ⟨ret_bool (by rw [HF'.out]), (Below.refl _ _).alloc (Nat.le_refl _) _⟩
  have d4 : decide (r3 ≤ ww) = true := decide_eq_true c4
  by_cases c5 : r4 ≤ h
  case neg =>
    have d5 : decide (r4 ≤ h) = false := decide_eq_false c5
    have HF' : Hid (insideS ww h ⟨r1, r2, r3, r4⟩ = false) := Lib.hid (by rw [HF.out, d0, d1, d2, d3, d4, d5]; simp)
    clear HF
    go_enter Try.func34, Try.ntmps34
    go_wp2_with fail
    go_ret
    exact ⟨ret_bool (by rw [HF'.out]), (Below.refl _ _).alloc (Nat.le_refl _) _⟩
  have d5 : decide (r4 ≤ h) = true := decide_eq_true c5
  by_cases c6 : r1 ≤ ww - r3
  case neg =>
    have d6 : decide (r1 ≤ ww - r3) = false := decide_eq_false c6
    have HF' : Hid (insideS ww h ⟨r1, r2, r3, r4⟩ = false) := Lib.hid (by rw [HF.out, d0, d1, d2, d3, d4, d5, d6]; simp)
    clear HF
    go_enter Try.func34, Try.ntmps34
    go_wp2_with fail
    go_ret
    exact ⟨ret_bool (by rw [HF'.out]), (Below.refl _ _).alloc (Nat.le_refl _) _⟩
  have d6 : decide (r1 ≤ ww - r3) = true := decide_eq_true c6
  by_cases c7 : r2 ≤ h - r4
  case neg =>
    have d7 : decide (r2 ≤ h - r4) = false := decide_eq_false c7
    have HF' : Hid (insideS ww h ⟨r1, r2, r3, r4⟩ = false) := Lib.hid (by rw [HF.out, d0, d1, d2, d3, d4, d5, d6, d7]; simp)
    clear HF
    go_enter Try.func34, Try.ntmps34
    go_wp2_with fail
    go_ret
    exact ⟨ret_bool (by rw [HF'.out]), (Below.refl _ _).alloc (Nat.le_refl _) _⟩
  have d7 : decide (r2 ≤ h - r4) = true := decide_eq_true c7
  have HF' : Hid (insideS ww h ⟨r1, r2, r3, r4⟩ = true) := Lib.hid (by rw [HF.out, d0, d1, d2, d3, d4, d5, d6, d7]; rfl)
  clear HF
  go_enter Try.func34, Try.ntmps34
  go_wp2_with fail
  go_ret
  exact ⟨ret_bool (by rw [HF'.out]), (Below.refl _ _).alloc (Nat.le_refl _) _⟩

theorem height_any (B : Nat) (A : Option Addr) (n c : Nat) (sky : List Int) (x k : Nat) (w : World) (h : Ints w B A n sky) (hxk : x + k ≤ n) (hk : 0 < k) (hn : n ≤ 1000) (hs : ∀ x ∈ sky, 0 ≤ x ∧ x ≤ 256) :
    Calls Try.prog 28 #[.slice A n c, .int .i64 x, .int .i64 k] w fun e w' => e = .returned (.int .i64 (hgt sky x k)) ∧ w' = w := by
  have hl := Lib.hid h.length
  have HS := Lib.hid hs; clear hs
  have HT : Hid (topTo sky x k = hgt sky x k) := Lib.hid (topTo_hgt HS.out hk (by rw [hl.out]; exact hxk))
  have hb : decide (wrap64 ((x : Int) + k) = (x : Int) + k) = true := by unfold wrap64; exact decide_eq_true (by omega)
  go_enter Try.func28, Try.ntmps28
  go_wp2_with fail
  go_loopw [7, 8] (fun m i wr => ∃ j : Nat, j ≤ k ∧ i = .int .i64 ((x : Int) + j) ∧ m = .int .i64 (topTo sky x j) ∧ wr = w) (fun _ i _ => x + k - (intOf i).toNat)
  case atStart => exact ⟨0, Nat.zero_le _, by simp, by simp [topTo], rfl⟩
  case round =>
    obtain ⟨j, hj, rfl, rfl, rfl⟩ := hrel
    have hr := topTo_range HS.out x j
    obtain ⟨hr1, hr2⟩ := hr
    by_cases hlt : j < k
    · obtain ⟨ad, y, rfl, hbb, hy, hm, hc, hlo, hhi⟩ := h.get (k := x + j) (by omega)
      have hsu := topTo_succ hy
      have hyr := HS.out y hm
      obtain ⟨hy1, hy2⟩ := hyr
      have HSU := Lib.hid hsu; clear hsu hy hm
      have t0 : decide ((x : Int) + j < x + k) = true := decide_eq_true (by omega)
      have i0 : (0 : Int) ≤ (x : Int) + j := by omega
      have i1 : (x : Int) + j < (n : Int) := by omega
      have i2 : ((x : Int) + j).toNat = x + j := by omega
      have m0 : (if topTo sky x j < y then y else topTo sky x j) = topTo sky x (j + 1) := by rw [HSU.out]; split <;> omega
      go_wp2_with fail
      go_roundw
      case rel => exact ⟨j + 1, by omega, by congr 1, rfl, trivial⟩
      case measure => simp only [intOf]; omega
    · have t0 : decide ((x : Int) + j < x + k) = false := decide_eq_false (by omega)
      obtain rfl : j = k := by omega
      go_wp2_with fail
      go_ret
      exact ⟨by rw [← HT.out]; rfl, rfl⟩
end Go.Proofs.Ytneoacbacflehaa
