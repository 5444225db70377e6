/-
  THE STEPS OF limewashref01.Is, Wide, told.
-/
import Derived.Test.YtcllghcplphijaaDoorNumWalkN
set_option linter.unusedVariables false
set_option linter.unusedSimpArgs false
set_option maxRecDepth 8000
namespace Go.Proofs.YtcllghcplphijaaDoor
open Go.RowKit

theorem ris_any (a : Pt) (w : World) (ha : a.b) :
    Calls Tryd.prog 26 #[ptV a] w fun e w' => e = .returned (.bool (wIs a)) ∧ Below w.heap.size w w' := by
  obtain ⟨x, y⟩ := a
  unfold ptV
  obtain ⟨b, hb⟩ : ∃ b, b = wIs ⟨x, y⟩ := ⟨_, rfl⟩
  have HB := Lib.hid hb
  rw [← hb]
  simp only [wIs] at hb
  have hB : ∀ a : Obj, Below w.heap.size w (w.alloc a) := fun a => (Below.refl _ _).alloc (Nat.le_refl _) _
  by_cases h1 : 0 ≤ y
  · have d1 : decide (0 ≤ y) = true := decide_eq_true h1
    rw [d1, Bool.true_and] at hb
    by_cases h2 : y < 1000000000000000000
    · have d2 : decide (y < 1000000000000000000) = true := decide_eq_true h2
      rw [d2, Bool.true_and] at hb
      by_cases h3 : -4000000000000000000 ≤ x
      · have d3 : decide (-4000000000000000000 ≤ x) = true := decide_eq_true h3
        rw [d3, Bool.true_and] at hb
        have HB2 := Lib.hid hb; clear hb HB
        go_enter Tryd.func26, Tryd.ntmps26
        go_wp2_with fail
        all_goals
          go_ret
          exact ⟨ret_bool HB2.out.symm, hB _⟩
      · have d3 : decide (-4000000000000000000 ≤ x) = false := decide_eq_false h3
        rw [d3, Bool.false_and] at hb
        have HB2 := Lib.hid hb; clear hb HB
        go_enter Tryd.func26, Tryd.ntmps26
        go_wp2_with fail
        all_goals
          go_ret
          exact ⟨ret_bool HB2.out.symm, hB _⟩
    · have d2 : decide (y < 1000000000000000000) = false := decide_eq_false h2
      rw [d2] at hb
      simp only [Bool.false_and] at hb
      have HB2 := Lib.hid hb; clear hb HB
      go_enter Tryd.func26, Tryd.ntmps26
      go_wp2_with fail
      all_goals
        go_ret
        exact ⟨ret_bool HB2.out.symm, hB _⟩
  · have d1 : decide (0 ≤ y) = false := decide_eq_false h1
    rw [d1] at hb
    simp only [Bool.false_and] at hb
    have HB2 := Lib.hid hb; clear hb HB
    go_enter Tryd.func26, Tryd.ntmps26
    go_wp2_with fail
    all_goals
      go_ret
      exact ⟨ret_bool HB2.out.symm, hB _⟩


/-- a Wide and a bool -/
def PB (w : World) (p : Pt) (b : Bool) (e : Ending) (w' : World) : Prop := e = .returned (.tuple #[ptV p, .bool b]) ∧ Below w.heap.size w w'

theorem wide_parts {X : Nat} (h : X < 5000000000000000000000000000000000000) (b : Bool) :
    (X / 10 ^ 18 % 10 ^ 19 = X / 1000000000000000000) ∧ (X / 10 ^ 0 % 10 ^ 18 = X % 1000000000000000000) := by
  constructor
  · rw [Nat.mod_eq_of_lt]
    omega
  · simp

theorem rwide_no (B : Nat) (A : Option Addr) (n c : Nat) (x : Int) (b : Bool) (w : World) (h : NumAt w B A n c x) (hB : B ≤ w.heap.size) (hl : n ≤ 1000) (hx : 5000000000000000000000000000000000000 ≤ x.natAbs) :
    Calls Tryd.prog 35 #[.agg #[.bool b, .slice A n c]] w (PB w ⟨0, 0⟩ false) := by
  have hlen := Lib.hid h.len
  have h37 : 36 < n := by
    have := (digs_lt 36 x.natAbs).2 (by omega)
    rw [hlen.out] at this; exact this
  obtain ⟨s1, s2, hb, hz⟩ := two_slots w [.bool b, .slice A n c] [.int .i64 0, .int .i64 0] #[.bool b, .slice A n c] #[.int .i64 0, .int .i64 0] 48 23 rfl rfl
  obtain ⟨a0, a1⟩ := (⟨s2.c 0 _ rfl, s2.c 1 _ rfl⟩ : _ ∧ _)
  have HB := Lib.hid hb; clear hb
  have HA0 := Lib.hid a0; clear a0
  have HA1 := Lib.hid a1; clear a1
  clear s1 s2
  unfold PB ptV
  by_cases h1 : 37 < n
  · have d1 : decide ((37 : Int) < (n : Int)) = true := decide_eq_true (by omega)
    clear hlen
    go_enter Tryd.func35, Tryd.ntmps35
    go_wp2_with fail
    exact bodyPost_ret (v := .tuple #[.agg #[.int .i64 0, .int .i64 0], .bool false]) (by simp [results, Tryd.results35, go_sem, HA0.out, HA1.out]) rfl ⟨rfl, HB.out⟩
  · obtain rfl : n = 37 := by omega
    obtain ⟨ad, d, rfl, hb, hx', hm, hc, _, _⟩ := (h.row).get (k := 36) h37
    have hd : d = dig x.natAbs 36 := by rw [digs_get _ _ (by rw [hlen.out]; exact h37)] at hx'; injection hx' with hx'; exact hx'.symm
    have hl37 := lt_pow_len x.natAbs
    rw [hlen.out] at hl37
    have hd4 : 4 < d := by
      rw [hd]; unfold dig
      omega
    have d2 : decide ((4 : Int) < d) = true := decide_eq_true hd4
    have hc' : ∀ o o', ((w.alloc o).alloc o').cell? (ad.add 36) = some (.int .i64 d) := fun o o' => by
      rw [World.cell?_alloc_lt _ o' _ (by rw [addr_block]; simp; omega), World.cell?_alloc_lt w o _ (by rw [addr_block]; omega)]; exact hc
    have hc2 : ∀ o o', ((w.alloc o).alloc o').cell? ⟨ad.block, ad.off + 36, none⟩ = some (.int .i64 d) := fun o o' => by rw [← addr_off ad (by decide : 0 < 36)]; exact hc' o o'
    have hbl : ad.block < w.heap.size := Nat.lt_of_lt_of_le hb hB
    have hc3 : w.cell? ⟨ad.block, ad.off + 36, none⟩ = some (.int .i64 d) := by rw [← addr_off ad (by decide : 0 < 36)]; exact hc
    clear hlen hx' hm hd hl37 hc hx hc'
    go_enter Tryd.func35, Tryd.ntmps35
    go_wp2_with fail
    exact bodyPost_ret (v := .tuple #[.agg #[.int .i64 0, .int .i64 0], .bool false]) (by simp [results, Tryd.results35, go_sem, HA0.out, HA1.out]) rfl ⟨rfl, HB.out⟩

theorem wOf_pos {x : Int} (h : 0 ≤ x) : wOf x = ⟨((x.natAbs / 1000000000000000000 : Nat) : Int), ((x.natAbs % 1000000000000000000 : Nat) : Int)⟩ := by
  unfold wOf
  congr 1 <;> omega
theorem wOf_neg {x : Int} (h : x < 0) : wOf x = if 0 < x.natAbs % 1000000000000000000 then ⟨-((x.natAbs / 1000000000000000000 : Nat) : Int) - 1, 1000000000000000000 - ((x.natAbs % 1000000000000000000 : Nat) : Int)⟩ else ⟨-((x.natAbs / 1000000000000000000 : Nat) : Int), 0⟩ := by
  unfold wOf
  split
  · congr 1 <;> omega
  · congr 1 <;> omega

set_option maxHeartbeats 3200000 in
theorem rwide_yes (B : Nat) (A : Option Addr) (n c : Nat) (x : Int) (b : Bool) (w : World) (h : NumAt w B A n c x) (hB : B ≤ w.heap.size) (hl : n ≤ 1000) (hx : x.natAbs < 5000000000000000000000000000000000000) (hbx : b = decide (x < 0)) :
    Calls Tryd.prog 35 #[.agg #[.bool b, .slice A n c]] w (PB w (wOf x) (wIs (wOf x))) := by
  obtain ⟨e1, e2⟩ := wide_parts hx b
  have HV1 := Lib.hid (fun W hW => value_any B A n c x.natAbs 18 19 W (h.row.below (b := w.heap.size) hW hB) (Nat.le_trans hB hW.size) (by decide) (by decide) hl (by rw [e1]; omega))
  have HV2 := Lib.hid (fun W hW => value_any B A n c x.natAbs 0 18 W (h.row.below (b := w.heap.size) hW hB) (Nat.le_trans hB hW.size) (by decide) (by decide) hl (by rw [e2]; omega))
  rw [e1] at HV1
  rw [e2] at HV2
  clear e1 e2
  have hlen := Lib.hid h.len
  have hwp : (wOf x).b := by unfold Pt.b i64b wOf; simp only; omega
  have HI := Lib.hid (fun W => ris_any (wOf x) W hwp)
  clear hwp
  have hn37 : n < 37 ∨ n = 37 ∧ dig x.natAbs 36 ≤ 4 := by
    have h1 := digs_len_le (n := x.natAbs) (L := 37) (by omega)
    rw [hlen.out] at h1
    rcases Nat.lt_or_eq_of_le h1 with h2 | h2
    · exact .inl h2
    · refine .inr ⟨h2, ?_⟩
      unfold dig; omega
  obtain ⟨i, hi⟩ : ∃ i, wIs (wOf x) = i := ⟨_, rfl⟩
  rw [hi] at HI ⊢
  clear hi
  have hcase : (0 ≤ x ∧ b = false) ∨ (x < 0 ∧ b = true ∧ 0 < x.natAbs % 1000000000000000000) ∨ (x < 0 ∧ b = true ∧ x.natAbs % 1000000000000000000 = 0) := by
    rcases Int.lt_or_le x 0 with h1 | h1
    · rw [decide_eq_true h1] at hbx
      rcases Nat.eq_zero_or_pos (x.natAbs % 1000000000000000000) with h2 | h2
      · exact .inr (.inr ⟨h1, hbx, h2⟩)
      · exact .inr (.inl ⟨h1, hbx, h2⟩)
    · rw [decide_eq_false (by omega)] at hbx; exact .inl ⟨h1, hbx⟩
  have hp : (0 ≤ x → wOf x = ⟨((x.natAbs / 1000000000000000000 : Nat) : Int), ((x.natAbs % 1000000000000000000 : Nat) : Int)⟩) ∧ (x < 0 → wOf x = if 0 < x.natAbs % 1000000000000000000 then ⟨-((x.natAbs / 1000000000000000000 : Nat) : Int) - 1, 1000000000000000000 - ((x.natAbs % 1000000000000000000 : Nat) : Int)⟩ else ⟨-((x.natAbs / 1000000000000000000 : Nat) : Int), 0⟩) := ⟨wOf_pos, wOf_neg⟩
  have q1 : x.natAbs / 1000000000000000000 < 5000000000000000000 := by omega
  have q2 : x.natAbs % 1000000000000000000 < 1000000000000000000 := by omega
  generalize x.natAbs / 1000000000000000000 = hi at *
  generalize x.natAbs % 1000000000000000000 = lo at *
  obtain ⟨s1, s2, hb, hz⟩ := two_slots w [.bool b, .slice A n c] [.int .i64 0, .int .i64 0] #[.bool b, .slice A n c] #[.int .i64 0, .int .i64 0] 48 23 rfl rfl
  obtain ⟨⟨u, v⟩, hu⟩ : ∃ p, wOf x = p := ⟨_, rfl⟩
  rw [hu] at HI hp ⊢
  clear hu
  have hux : (b = false ∧ u = hi ∧ v = lo) ∨ (b = true ∧ 0 < lo ∧ u = -(hi : Int) - 1 ∧ v = 1000000000000000000 - (lo : Int)) ∨ (b = true ∧ lo = 0 ∧ u = -(hi : Int) ∧ v = 0) := by
    rcases hcase with ⟨h1, h2⟩ | ⟨h1, h2, h3⟩ | ⟨h1, h2, h3⟩
    · have := hp.1 h1; injection this with h4 h5; exact .inl ⟨h2, h4, h5⟩
    · have := hp.2 h1; rw [if_pos h3] at this; injection this with h4 h5; exact .inr (.inl ⟨h2, h3, h4, h5⟩)
    · have := hp.2 h1; rw [if_neg (by omega)] at this; injection this with h4 h5; exact .inr (.inr ⟨h2, h3, h4, h5⟩)
  clear hp hcase hbx hx
  unfold PB ptV at *
  simp only at HI
  rcases hn37 with h37 | ⟨rfl, h37⟩
  case' inl =>
    have d1 : decide ((37 : Int) < (n : Int)) = false := decide_eq_false (by omega)
    have d2 : ((n : Int) == 37) = false := by simp; omega
  case' inr =>
    obtain ⟨ad, d, rfl, hb', hx', hm, hc, _, _⟩ := (h.row).get (k := 36) (by omega)
    have hd : d = dig x.natAbs 36 := by rw [digs_get _ _ (by rw [hlen.out]; omega)] at hx'; injection hx' with hx'; exact hx'.symm
    have d2 : decide ((4 : Int) < d) = false := decide_eq_false (by omega)
    have hbl : ad.block < w.heap.size := Nat.lt_of_lt_of_le hb' hB
    have hc2 : ∀ o o', ((w.alloc o).alloc o').cell? ⟨ad.block, ad.off + 36, none⟩ = some (.int .i64 d) := fun o o' => by
      rw [← addr_off ad (by decide : 0 < 36), World.cell?_alloc_lt _ o' _ (by rw [addr_block]; simp; omega), World.cell?_alloc_lt w o _ (by rw [addr_block]; omega)]; exact hc
    have hc3 : w.cell? ⟨ad.block, ad.off + 36, none⟩ = some (.int .i64 d) := by rw [← addr_off ad (by decide : 0 < 36)]; exact hc
    clear hx' hm hd hc
  all_goals
    clear hlen h
    rcases hux with ⟨rfl, rfl, rfl⟩ | ⟨rfl, hlo, rfl, rfl⟩ | ⟨rfl, rfl, rfl, rfl⟩
    · skip
      go_enter Tryd.func35, Tryd.ntmps35
      go_wp2_with fail
      generalize hW : (w.alloc (.cells #[.bool false, .slice _ _ c] 48)).alloc (.cells #[.int .i64 0, .int .i64 0] 23) = V at s1 s2 hb hz ⊢
      clear hW
      try clear hc2 hc3
      have hz' : w.heap.size + 2 ≤ V.heap.size := by omega
      clear hz
      have HB := Lib.hid hb; clear hb
      have S1 := Lib.hid s1
      have S2 := Lib.hid s2
      have c1 := s1.c 1 _ rfl
      have c0 := s1.c 0 _ rfl
      clear s1 s2
      refine (HV1.out V HB.out).mono ?_
      clear HV1
      rintro e w1 ⟨rfl, rfl⟩
      go_wp2_with fail
      refine (HV2.out w1 HB.out).mono ?_
      clear HV2
      rintro e w2 ⟨rfl, rfl⟩
      obtain ⟨s3, hb3, hz3⟩ := one_slot w2 [.int .i64 hi, .int .i64 lo] #[.int .i64 hi, .int .i64 lo] 23 rfl
      go_wp2_with fail
      generalize w2.alloc (.cells #[.int .i64 hi, .int .i64 lo] 23) = V3 at s3 hb3 hz3 ⊢
      have HB3 := Lib.hid (HB.out.trans (hb3.mono HB.out.size))
      have S3 := Lib.hid (S2.out.below hb3 (by omega))
      have hz3' : w2.heap.size < V3.heap.size := by omega
      clear hz3
      have k0 := s3.c 0 _ rfl
      have k1 := s3.c 1 _ rfl
      clear c0 c1 hb3 s3
      go_region_held3 (fun w' => w'.cell? ⟨w2.heap.size, 0, none⟩ = some (.int .i64 hi) ∧ w'.cell? ⟨w2.heap.size, 1, none⟩ = some (.int .i64 lo))
        (refine ⟨?_, ?_⟩ <;> (first | with_reducible assumption | (rw [hby.cell (by (try dsimp only); omega)]; with_reducible assumption) | (rw [World.cell?_setCell_far _ _ _ _ (by dsimp only; omega), World.cell?_setCell_far _ _ _ _ (by dsimp only; omega), hby.cell (by (try dsimp only); omega)]; with_reducible assumption) | (go_keep; done)))
        (first | (go_at_call 26; refine (HI.out _).mono ?_; clear HI; rintro e wx ⟨rfl, hbx⟩; have hby : Below V3.heap.size V3 wx := (Below.refl _ V3).drew.trans (hbx.mono (by simp)); have y0 := (S3.out.below hby (by omega)).c 0 _ rfl; have y1 := (S3.out.below hby (by omega)).c 1 _ rfl; have y2 := (S3.out.below hby (by omega)).f 0; have y3 := (S3.out.below hby (by omega)).f 1))
      have HB4 := Lib.hid (HB3.out.trans (hby.mono HB3.out.size))
      go_wp2_with fail
      refine bodyPost_ret (v := .tuple #[.agg #[.int .i64 hi, .int .i64 lo], .bool i]) (by simp [results, Tryd.results35, go_sem, y0, y1]) rfl ⟨rfl, (HB4.out.setCell (by simp only; omega) _).setCell (by simp only; omega) _⟩
    · have d5 : decide ((0 : Int) < (lo : Int)) = true := decide_eq_true (by omega)
      go_enter Tryd.func35, Tryd.ntmps35
      go_wp2_with fail
      generalize hW : (w.alloc (.cells #[.bool true, .slice _ _ c] 48)).alloc (.cells #[.int .i64 0, .int .i64 0] 23) = V at s1 s2 hb hz ⊢
      clear hW
      try clear hc2 hc3
      have hz' : w.heap.size + 2 ≤ V.heap.size := by omega
      clear hz
      have HB := Lib.hid hb; clear hb
      have S1 := Lib.hid s1
      have S2 := Lib.hid s2
      have c1 := s1.c 1 _ rfl
      have c0 := s1.c 0 _ rfl
      clear s1 s2
      refine (HV1.out V HB.out).mono ?_
      clear HV1
      rintro e w1 ⟨rfl, rfl⟩
      go_wp2_with fail
      refine (HV2.out w1 HB.out).mono ?_
      clear HV2
      rintro e w2 ⟨rfl, rfl⟩
      obtain ⟨s3, hb3, hz3⟩ := one_slot w2 [.int .i64 (-(hi : Int) - 1), .int .i64 (1000000000000000000 - (lo : Int))] #[.int .i64 (-(hi : Int) - 1), .int .i64 (1000000000000000000 - (lo : Int))] 23 rfl
      go_wp2_with fail
      generalize w2.alloc (.cells #[.int .i64 (-(hi : Int) - 1), .int .i64 (1000000000000000000 - (lo : Int))] 23) = V3 at s3 hb3 hz3 ⊢
      have HB3 := Lib.hid (HB.out.trans (hb3.mono HB.out.size))
      have S3 := Lib.hid (S2.out.below hb3 (by omega))
      have hz3' : w2.heap.size < V3.heap.size := by omega
      clear hz3
      have k0 := s3.c 0 _ rfl
      have k1 := s3.c 1 _ rfl
      clear c0 c1 hb3 s3
      go_region_held3 (fun w' => w'.cell? ⟨w2.heap.size, 0, none⟩ = some (.int .i64 (-(hi : Int) - 1)) ∧ w'.cell? ⟨w2.heap.size, 1, none⟩ = some (.int .i64 (1000000000000000000 - (lo : Int))))
        (refine ⟨?_, ?_⟩ <;> (first | with_reducible assumption | (rw [hby.cell (by (try dsimp only); omega)]; with_reducible assumption) | (rw [World.cell?_setCell_far _ _ _ _ (by dsimp only; omega), World.cell?_setCell_far _ _ _ _ (by dsimp only; omega), hby.cell (by (try dsimp only); omega)]; with_reducible assumption) | (go_keep; done)))
        (first | (go_at_call 26; refine (HI.out _).mono ?_; clear HI; rintro e wx ⟨rfl, hbx⟩; have hby : Below V3.heap.size V3 wx := (Below.refl _ V3).drew.trans (hbx.mono (by simp)); have y0 := (S3.out.below hby (by omega)).c 0 _ rfl; have y1 := (S3.out.below hby (by omega)).c 1 _ rfl; have y2 := (S3.out.below hby (by omega)).f 0; have y3 := (S3.out.below hby (by omega)).f 1))
      have HB4 := Lib.hid (HB3.out.trans (hby.mono HB3.out.size))
      go_wp2_with fail
      refine bodyPost_ret (v := .tuple #[.agg #[.int .i64 (-(hi : Int) - 1), .int .i64 (1000000000000000000 - (lo : Int))], .bool i]) (by simp [results, Tryd.results35, go_sem, y0, y1]) rfl ⟨rfl, (HB4.out.setCell (by simp only; omega) _).setCell (by simp only; omega) _⟩
    · skip
      go_enter Tryd.func35, Tryd.ntmps35
      go_wp2_with fail
      generalize hW : (w.alloc (.cells #[.bool true, .slice _ _ c] 48)).alloc (.cells #[.int .i64 0, .int .i64 0] 23) = V at s1 s2 hb hz ⊢
      clear hW
      try clear hc2 hc3
      have hz' : w.heap.size + 2 ≤ V.heap.size := by omega
      clear hz
      have HB := Lib.hid hb; clear hb
      have S1 := Lib.hid s1
      have S2 := Lib.hid s2
      have c1 := s1.c 1 _ rfl
      have c0 := s1.c 0 _ rfl
      clear s1 s2
      refine (HV1.out V HB.out).mono ?_
      clear HV1
      rintro e w1 ⟨rfl, rfl⟩
      go_wp2_with fail
      refine (HV2.out w1 HB.out).mono ?_
      clear HV2
      rintro e w2 ⟨rfl, rfl⟩
      obtain ⟨s3, hb3, hz3⟩ := one_slot w2 [.int .i64 (-(hi : Int)), .int .i64 0] #[.int .i64 (-(hi : Int)), .int .i64 0] 23 rfl
      go_wp2_with fail
      generalize w2.alloc (.cells #[.int .i64 (-(hi : Int)), .int .i64 0] 23) = V3 at s3 hb3 hz3 ⊢
      have HB3 := Lib.hid (HB.out.trans (hb3.mono HB.out.size))
      have S3 := Lib.hid (S2.out.below hb3 (by omega))
      have hz3' : w2.heap.size < V3.heap.size := by omega
      clear hz3
      have k0 := s3.c 0 _ rfl
      have k1 := s3.c 1 _ rfl
      clear c0 c1 hb3 s3
      go_region_held3 (fun w' => w'.cell? ⟨w2.heap.size, 0, none⟩ = some (.int .i64 (-(hi : Int))) ∧ w'.cell? ⟨w2.heap.size, 1, none⟩ = some (.int .i64 0))
        (refine ⟨?_, ?_⟩ <;> (first | with_reducible assumption | (rw [hby.cell (by (try dsimp only); omega)]; with_reducible assumption) | (rw [World.cell?_setCell_far _ _ _ _ (by dsimp only; omega), World.cell?_setCell_far _ _ _ _ (by dsimp only; omega), hby.cell (by (try dsimp only); omega)]; with_reducible assumption) | (go_keep; done)))
        (first | (go_at_call 26; refine (HI.out _).mono ?_; clear HI; rintro e wx ⟨rfl, hbx⟩; have hby : Below V3.heap.size V3 wx := (Below.refl _ V3).drew.trans (hbx.mono (by simp)); have y0 := (S3.out.below hby (by omega)).c 0 _ rfl; have y1 := (S3.out.below hby (by omega)).c 1 _ rfl; have y2 := (S3.out.below hby (by omega)).f 0; have y3 := (S3.out.below hby (by omega)).f 1))
      have HB4 := Lib.hid (HB3.out.trans (hby.mono HB3.out.size))
      go_wp2_with fail
      refine bodyPost_ret (v := .tuple #[.agg #[.int .i64 (-(hi : Int)), .int .i64 0], .bool i]) (by simp [results, Tryd.results35, go_sem, y0, y1]) rfl ⟨rfl, (HB4.out.setCell (by simp only; omega) _).setCell (by simp only; omega) _⟩

theorem wIs_far {x : Int} (h : 5000000000000000000000000000000000000 ≤ x.natAbs) : wIs (wOf x) = false := by
  cases e : wIs (wOf x) with
  | false => rfl
  | true =>
    rw [wIs_iff] at e
    unfold wOf at e
    simp only at e
    omega
end Go.Proofs.YtcllghcplphijaaDoor
