/-
  THE WALKS OF cmp.isNaN, cmp.Compare, cmp.Or (at two ints), wide.sum, wide.Neg.
-/
import Derived.Test.YtcllghcplphijaaDoorWideWalkB
set_option linter.unusedVariables false
set_option linter.unusedSimpArgs false
namespace Go.Proofs.YtcllghcplphijaaDoor
open Go.RowKit

theorem isnan_any (x : Int) (w : World) : Calls Tryd.prog 49 #[.int .i64 x] w fun e w' => e = .returned (.bool false) ∧ w' = w := by
  have d : (x != x) = false := by simp
  go_enter Tryd.func49, Tryd.ntmps49
  go_wp2_with fail
  all_goals
    go_ret
    exact ⟨ret_bool (by simp), rfl⟩
def cmpS (x y : Int) : Int := if x < y then -1 else if y < x then 1 else 0
theorem compare_any (x y : Int) (w : World) : Calls Tryd.prog 37 #[.int .i64 x, .int .i64 y] w fun e w' => e = .returned (.int .i64 (cmpS x y)) ∧ w' = w := by
  have H1 := Lib.hid (fun W => isnan_any x W)
  have H2 := Lib.hid (fun W => isnan_any y W)
  by_cases h : x < y
  · have d1 : decide (x < y) = true := decide_eq_true h
    have e : cmpS x y = -1 := by unfold cmpS; rw [if_pos h]
    rw [e]
    clear h e
    go_enter Tryd.func37, Tryd.ntmps37
    go_wp2_with (first | (go_at_call 49; refine (H1.out _).mono ?_; rintro e w1 ⟨he, hw⟩; subst he; subst hw) | (go_at_call 49; refine (H2.out _).mono ?_; rintro e w1 ⟨he, hw⟩; subst he; subst hw))
    all_goals
      go_ret
      exact ⟨rfl, rfl⟩
  have d1 : decide (x < y) = false := decide_eq_false h
  by_cases h2 : y < x
  · have d2 : decide (y < x) = true := decide_eq_true h2
    have e : cmpS x y = 1 := by unfold cmpS; rw [if_neg h, if_pos h2]
    rw [e]
    clear h h2 e
    go_enter Tryd.func37, Tryd.ntmps37
    go_wp2_with (first | (go_at_call 49; refine (H1.out _).mono ?_; rintro e w1 ⟨he, hw⟩; subst he; subst hw) | (go_at_call 49; refine (H2.out _).mono ?_; rintro e w1 ⟨he, hw⟩; subst he; subst hw))
    all_goals
      go_ret
      exact ⟨rfl, rfl⟩
  · have d2 : decide (y < x) = false := decide_eq_false h2
    have e : cmpS x y = 0 := by unfold cmpS; rw [if_neg h, if_neg h2]
    rw [e]
    clear h h2 e
    go_enter Tryd.func37, Tryd.ntmps37
    go_wp2_with (first | (go_at_call 49; refine (H1.out _).mono ?_; rintro e w1 ⟨he, hw⟩; subst he; subst hw) | (go_at_call 49; refine (H2.out _).mono ?_; rintro e w1 ⟨he, hw⟩; subst he; subst hw))
    all_goals
      go_ret
      exact ⟨rfl, rfl⟩

/-- the first of two that is not 0 -/
def orS (x y : Int) : Int := if x = 0 then y else x
theorem or_any (x y : Int) (B : Nat) (A : Option Addr) (c : Nat) (w : World) (h : Ints w B A 2 [x, y]) :
    Calls Tryd.prog 36 #[.slice A 2 c] w fun e w' => e = .returned (.int .i64 (orS x y)) ∧ Below w.heap.size w w' := by
  obtain ⟨ad, x0, rfl, _, e0, _, c0, _, _⟩ := h.get (k := 0) (by omega)
  obtain ⟨ad1, x1, e1, _, e2, _, c1, _, _⟩ := h.get (k := 1) (by omega)
  simp at e0 e2 e1
  subst e0; subst e2; subst e1
  clear h
  rw [show ad.add 0 = ad from rfl] at c0
  rw [addr_off _ (by omega)] at c1
  by_cases h0 : x = 0
  · have t0 : (x != 0) = false := by simp [h0]
    by_cases h1 : y = 0
    · have t1 : (y != 0) = false := by simp [h1]
      have e : orS x y = 0 := by unfold orS; rw [if_pos h0, h1]
      rw [e]
      clear e h0 h1
      go_enter Tryd.func36, Tryd.ntmps36
      go_wp2_with fail
      go_loopw [8] (fun i wr => ∃ k : Nat, i = .int .i64 k ∧ k ≤ 2 ∧ wr = w) (fun i _ => (2 - intOf i).toNat)
      case atStart => exact ⟨0, rfl, by omega, rfl⟩
      case round =>
        obtain ⟨k, rfl, hk, rfl⟩ := hrel
        rcases (show k = 0 ∨ k = 1 ∨ k = 2 by omega) with rfl | rfl | rfl
        · go_wp2_with fail
          refine ⟨⟨1, by rfl, by omega, trivial⟩, ?_⟩
          simp only [intOf]; omega
        · go_wp2_with fail
          refine ⟨⟨2, by rfl, by omega, trivial⟩, ?_⟩
          simp only [intOf]; omega
        · go_wp2_with fail
          all_goals
            go_ret
            exact ⟨rfl, Below.refl _ _⟩
    · have t1 : (y != 0) = true := by simp [h1]
      have e : orS x y = y := by unfold orS; rw [if_pos h0]
      rw [e]
      clear e h0 h1
      go_enter Tryd.func36, Tryd.ntmps36
      go_wp2_with fail
      go_loopw [8] (fun i wr => ∃ k : Nat, i = .int .i64 k ∧ k ≤ 1 ∧ wr = w) (fun i _ => (2 - intOf i).toNat)
      case atStart => exact ⟨0, rfl, by omega, rfl⟩
      case round =>
        obtain ⟨k, rfl, hk, rfl⟩ := hrel
        rcases (show k = 0 ∨ k = 1 by omega) with rfl | rfl
        · go_wp2_with fail
          refine ⟨⟨1, by rfl, by omega, trivial⟩, ?_⟩
          simp only [intOf]; omega
        · go_wp2_with fail
          all_goals
            go_ret
            exact ⟨rfl, Below.refl _ _⟩
  · have t0 : (x != 0) = true := by simp [h0]
    have e : orS x y = x := by unfold orS; rw [if_neg h0]
    rw [e]
    clear e h0
    go_enter Tryd.func36, Tryd.ntmps36
    go_wp2_with fail
    go_loopw [8] (fun i wr => ∃ k : Nat, i = .int .i64 k ∧ k ≤ 0 ∧ wr = w) (fun i _ => (2 - intOf i).toNat)
    case atStart => exact ⟨0, rfl, by omega, rfl⟩
    case round =>
      obtain ⟨k, rfl, hk, rfl⟩ := hrel
      obtain rfl : k = 0 := by omega
      go_wp2_with fail
      all_goals
        go_ret
        exact ⟨rfl, Below.refl _ _⟩

/-- three new variables -/
theorem three_slots (w : World) (cs1 cs2 cs3 : List Value) (a1 a2 a3 : Array Value) (t1 t2 t3 : TypeId) (h1 : a1 = cs1.toArray) (h2 : a2 = cs2.toArray) (h3 : a3 = cs3.toArray) :
    SlotN (((w.alloc (.cells a1 t1)).alloc (.cells a2 t2)).alloc (.cells a3 t3)) w.heap.size cs1 ∧ SlotN (((w.alloc (.cells a1 t1)).alloc (.cells a2 t2)).alloc (.cells a3 t3)) (w.heap.size + 1) cs2 ∧
    SlotN (((w.alloc (.cells a1 t1)).alloc (.cells a2 t2)).alloc (.cells a3 t3)) (w.heap.size + 1 + 1) cs3 ∧
    Below w.heap.size w (((w.alloc (.cells a1 t1)).alloc (.cells a2 t2)).alloc (.cells a3 t3)) ∧ (((w.alloc (.cells a1 t1)).alloc (.cells a2 t2)).alloc (.cells a3 t3)).heap.size = w.heap.size + 3 := by
  obtain ⟨s1, s2, hb, hz⟩ := two_slots w cs1 cs2 a1 a2 t1 t2 h1 h2
  have s3 := SlotN.new ((w.alloc (.cells a1 t1)).alloc (.cells a2 t2)) cs3 a3 t3 h3
  rw [hz] at s3
  have hb' := (Below.refl (w.heap.size + 2) ((w.alloc (.cells a1 t1)).alloc (.cells a2 t2))).alloc (by omega) (.cells a3 t3)
  exact ⟨s1.below hb' (by omega), s2.below hb' (by omega), s3, hb.alloc (by omega) _, by simp⟩

theorem wsum_any (a b : Pt) (w : World) (ha : a.b) (hb : b.b) (ia : wIs a = true) (ib : wIs b = true) : Calls Tryd.prog 42 #[ptV a, ptV b] w (PE w (wTold (wval a + wval b))) := by
  rw [wIs_iff] at ia ib
  obtain ⟨ax, ay⟩ := a
  obtain ⟨bx, bz⟩ := b
  simp only at ia ib
  obtain ⟨i1, i2, i3, i4⟩ := ia
  obtain ⟨j1, j2, j3, j4⟩ := ib
  have hs : i64b (ay + bz) := ⟨by omega, by omega⟩
  have HF := Lib.hid (fun W => floor_any (ay + bz) 1000000000000000000 W hs (by omega))
  obtain ⟨q, hq⟩ : ∃ q, q = (ay + bz) / 1000000000000000000 := ⟨_, rfl⟩
  obtain ⟨r, hr⟩ : ∃ r, r = (ay + bz) % 1000000000000000000 := ⟨_, rfl⟩
  have ev : wTold (wval ⟨ax, ay⟩ + wval ⟨bx, bz⟩) = wRight ⟨ax + bx + q, r⟩ :=
    wTold_of (a := ⟨ax + bx + q, r⟩) (by simp only; omega) (by simp only [wval]; omega)
  rw [ev]
  rw [← hq, ← hr] at HF
  have hq2 : 0 ≤ q ∧ q ≤ 1 := by omega
  have hr2 : 0 ≤ r ∧ r < 1000000000000000000 := by omega
  clear ev hq hr hs
  have HR := Lib.hid (fun W => right_any ⟨ax + bx + q, r⟩ W ⟨⟨by simp only; omega, by simp only; omega⟩, ⟨by simp only; omega, by simp only; omega⟩⟩)
  unfold PE ptV at *
  simp only at HR
  generalize wRight ⟨ax + bx + q, r⟩ = R at HR ⊢
  obtain ⟨⟨rx, ry⟩, re⟩ := R
  simp only at HR ⊢
  obtain ⟨q1, q2⟩ := hq2
  obtain ⟨r1, r2⟩ := hr2
  have n1 : wrap64 (ay + bz) = ay + bz := by unfold wrap64; omega
  have n2 : wrap64 (ax + bx) = ax + bx := by unfold wrap64; omega
  have n3 : wrap64 (ax + bx + q) = ax + bx + q := by unfold wrap64; omega
  obtain ⟨s1, s2, s3, hb, hz⟩ := three_slots w [.int .i64 ax, .int .i64 ay] [.int .i64 bx, .int .i64 bz] [.int .i64 0, .int .i64 0] #[.int .i64 ax, .int .i64 ay] #[.int .i64 bx, .int .i64 bz] #[.int .i64 0, .int .i64 0] 23 23 23 rfl rfl rfl
  go_enter Tryd.func42, Tryd.ntmps42
  go_wp2_with fail
  generalize hW : ((w.alloc (.cells #[.int .i64 ax, .int .i64 ay] 23)).alloc (.cells #[.int .i64 bx, .int .i64 bz] 23)).alloc (.cells #[.int .i64 0, .int .i64 0] 23) = W at s1 s2 s3 hb hz ⊢
  refine (HF.out W).mono ?_
  clear HF hW
  rintro e w1 ⟨rfl, hb1⟩
  have hb2 := hb.trans (hb1.mono (by omega))
  have r1 := s1.below hb1 (by omega)
  have r2 := s2.below hb1 (by omega)
  have r3 := s3.below hb1 (by omega)
  have hz1 := hb1.size
  have c0 := r1.c 0 _ rfl
  have d0 := r2.c 0 _ rfl
  have R3 := Lib.hid r3
  have HB := Lib.hid hb2
  clear s1 s2 s3 hb hb1 r1 r2 r3 hb2
  go_wp2_with fail
  refine (HR.out w1).mono ?_
  clear HR
  rintro e w2 ⟨rfl, hb1⟩
  have r4 := R3.out.below hb1 (by omega)
  have f0 := r4.f 0
  have f1 := r4.f 1
  have c0' := r4.c 0 _ rfl
  have c1' := r4.c 1 _ rfl
  have S2 := Lib.hid (r4.set2 (.int .i64 rx) (.int .i64 ry))
  have HB2 := Lib.hid (HB.out.trans (hb1.mono (by omega)))
  clear R3 HB hb1 r4 c0 d0
  go_wp2_with fail
  obtain ⟨a0, a1⟩ := (⟨S2.out.c 0 _ rfl, S2.out.c 1 _ rfl⟩ : _ ∧ _)
  refine bodyPost_ret (v := .tuple #[.agg #[.int .i64 rx, .int .i64 ry], .int .i64 re]) (by simp [results, Tryd.results42, go_sem, a0, a1]) rfl ⟨rfl, ?_⟩
  exact (HB2.out.setCell (by simp only; omega) _).setCell (by simp only; omega) _

theorem wneg_any (a : Pt) (w : World) (ha : a.b) : Calls Tryd.prog 24 #[ptV a] w (PE w (wNeg a)) := by
  have HI := Lib.hid (fun W => is_any a W ha)
  obtain ⟨x, y⟩ := a
  have ev : wNeg ⟨x, y⟩ = if wIs ⟨x, y⟩ then (if y = 0 then (⟨-x, 0⟩, 0) else wRight ⟨-x - 1, 1000000000000000000 - y⟩) else (⟨0, 0⟩, 1) := by
    unfold wNeg
    cases hi : wIs ⟨x, y⟩ with
    | false => rfl
    | true =>
      rw [wIs_iff] at hi
      simp only at hi
      simp only [if_true]
      by_cases hy : y = 0
      · rw [if_pos hy, wTold_of (a := ⟨-x, 0⟩) (by simp) (by simp only [wval]; omega), if_pos (by rw [wIs_iff]; simp only; omega)]
      · rw [if_neg hy]
        exact wTold_of (a := ⟨-x - 1, 1000000000000000000 - y⟩) (by simp only; omega) (by simp only [wval]; omega)
  rw [ev]
  clear ev
  unfold ptV at HI
  simp only at HI
  obtain ⟨s1, s2, hb, hz⟩ := two_slots w [.int .i64 x, .int .i64 y] [.int .i64 0, .int .i64 0] #[.int .i64 x, .int .i64 y] #[.int .i64 0, .int .i64 0] 23 23 rfl rfl
  unfold PE ptV
  cases hi : wIs ⟨x, y⟩ with
  | false =>
    rw [hi] at HI
    simp only [Bool.false_eq_true, if_false]
    clear hi
    go_enter Tryd.func24, Tryd.ntmps24
    go_wp2_with fail
    generalize hW : (w.alloc (.cells #[.int .i64 x, .int .i64 y] 23)).alloc (.cells #[.int .i64 0, .int .i64 0] 23) = W at s1 s2 hb hz ⊢
    refine (HI.out W).mono ?_
    clear HI hW
    rintro e w1 ⟨rfl, hb1⟩
    have hb2 := hb.trans (hb1.mono (by omega))
    have r2 := s2.below hb1 (by omega)
    clear s1 s2 hb hb1 hz
    have d0 := r2.c 0 _ rfl
    have d1 := r2.c 1 _ rfl
    have f0 := r2.f 0
    have f1 := r2.f 1
    have S2 := Lib.hid (r2.set2 (.int .i64 0) (.int .i64 0))
    have HB := Lib.hid hb2
    clear r2 hb2
    go_wp2_with fail
    obtain ⟨a0, a1⟩ := (⟨S2.out.c 0 _ rfl, S2.out.c 1 _ rfl⟩ : _ ∧ _)
    refine bodyPost_ret (v := .tuple #[.agg #[.int .i64 0, .int .i64 0], .int .i64 1]) (by simp [results, Tryd.results24, go_sem, a0, a1]) rfl ⟨rfl, ?_⟩
    exact (HB.out.setCell (by simp) _).setCell (by simp) _
  | true =>
    rw [hi] at HI
    rw [wIs_iff] at hi
    simp only at hi
    obtain ⟨i1, i2, i3, i4⟩ := hi
    simp only [if_true]
    have n1 : wrap64 (-x) = -x := by unfold wrap64; omega
    by_cases hy : y = 0
    · subst hy
      simp only [if_true]
      go_enter Tryd.func24, Tryd.ntmps24
      go_wp2_with fail
      generalize hW : (w.alloc (.cells #[.int .i64 x, .int .i64 0] 23)).alloc (.cells #[.int .i64 0, .int .i64 0] 23) = W at s1 s2 hb hz ⊢
      refine (HI.out W).mono ?_
      clear HI hW
      rintro e w1 ⟨rfl, hb1⟩
      have hb2 := hb.trans (hb1.mono (by omega))
      have r1 := s1.below hb1 (by omega)
      have r2 := s2.below hb1 (by omega)
      clear s1 s2 hb hb1 hz
      have c0 := r1.c 0 _ rfl
      have c1 := r1.c 1 _ rfl
      have d0 := r2.c 0 _ rfl
      have d1 := r2.c 1 _ rfl
      have f0 := r2.f 0
      have f1 := r2.f 1
      have S2 := Lib.hid (r2.set2 (.int .i64 (-x)) (.int .i64 0))
      have HB := Lib.hid hb2
      clear r1 r2 hb2
      go_wp2_with fail
      obtain ⟨a0, a1⟩ := (⟨S2.out.c 0 _ rfl, S2.out.c 1 _ rfl⟩ : _ ∧ _)
      refine bodyPost_ret (v := .tuple #[.agg #[.int .i64 (-x), .int .i64 0], .int .i64 0]) (by simp [results, Tryd.results24, go_sem, a0, a1]) rfl ⟨rfl, ?_⟩
      exact (HB.out.setCell (by simp) _).setCell (by simp) _
    · have t0 : (y == 0) = false := beq_eq_false_iff_ne.2 hy
      have y0 : 0 < y := by omega
      rw [if_neg hy]
      have n2 : wrap64 (-x - 1) = -x - 1 := by unfold wrap64; omega
      have n3 : wrap64 (1000000000000000000 - y) = 1000000000000000000 - y := by unfold wrap64; omega
      have HR := Lib.hid (fun W => right_any ⟨-x - 1, 1000000000000000000 - y⟩ W ⟨⟨by simp only; omega, by simp only; omega⟩, ⟨by simp only; omega, by simp only; omega⟩⟩)
      unfold PE ptV at HR
      simp only at HR
      generalize wRight ⟨-x - 1, 1000000000000000000 - y⟩ = R at HR ⊢
      obtain ⟨⟨rx, ry⟩, re⟩ := R
      simp only at HR ⊢
      go_enter Tryd.func24, Tryd.ntmps24
      go_wp2_with fail
      generalize hW : (w.alloc (.cells #[.int .i64 x, .int .i64 y] 23)).alloc (.cells #[.int .i64 0, .int .i64 0] 23) = W at s1 s2 hb hz ⊢
      refine (HI.out W).mono ?_
      clear HI hW
      rintro e w1 ⟨rfl, hb1⟩
      have hb2 := hb.trans (hb1.mono (by omega))
      have r1 := s1.below hb1 (by omega)
      have r2 := s2.below hb1 (by omega)
      have hz1 := hb1.size
      have c0 := r1.c 0 _ rfl
      have c1 := r1.c 1 _ rfl
      have R3 := Lib.hid r2
      have HB := Lib.hid hb2
      clear s1 s2 hb hb1 r1 r2 hb2
      go_wp2_with fail
      refine (HR.out w1).mono ?_
      clear HR
      rintro e w2 ⟨rfl, hb1⟩
      have r4 := R3.out.below hb1 (by omega)
      have f0 := r4.f 0
      have f1 := r4.f 1
      have c0' := r4.c 0 _ rfl
      have c1' := r4.c 1 _ rfl
      have S2 := Lib.hid (r4.set2 (.int .i64 rx) (.int .i64 ry))
      have HB2 := Lib.hid (HB.out.trans (hb1.mono (by omega)))
      clear R3 HB hb1 r4 c0 c1
      go_wp2_with fail
      obtain ⟨a0, a1⟩ := (⟨S2.out.c 0 _ rfl, S2.out.c 1 _ rfl⟩ : _ ∧ _)
      refine bodyPost_ret (v := .tuple #[.agg #[.int .i64 rx, .int .i64 ry], .int .i64 re]) (by simp [results, Tryd.results24, go_sem, a0, a1]) rfl ⟨rfl, ?_⟩
      exact (HB2.out.setCell (by simp) _).setCell (by simp) _
end Go.Proofs.YtcllghcplphijaaDoor
