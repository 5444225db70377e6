/-
  THE WALK OF THE LAW ShelfLowest.
-/
import Derived.Test.YtneoacbacflehaaShelfLawA
import Derived.Test.YtneoacbacflehaaShelfLaw
import Derived.Test.YtneoacbacflehaaMix
import Derived.Test.YtneoacbacflehaaLex
set_option linter.unusedVariables false
set_option linter.unusedSimpArgs false
namespace Go.Proofs.Ytneoacbacflehaa
open Go.RowKit

theorem foldl_max_zero {l : List Int} (h : ∀ x ∈ l, 0 ≤ x) (hne : l ≠ []) : l.foldl max 0 = maxL l := by
  cases l with
  | nil => exact absurd rfl hne
  | cons a l =>
    simp only [List.foldl_cons, maxL]
    rw [Int.max_eq_right (h a (by simp))]
/-- the greatest of m columns from i on, 0 where there is none -/
def topTo (sky : List Int) (i m : Nat) : Int := ((sky.drop i).take m).foldl max 0
theorem topTo_succ {sky : List Int} {i m : Nat} {x : Int} (hx : sky[i + m]? = some x) : topTo sky i (m + 1) = max (topTo sky i m) x := by
  unfold topTo
  rw [take_snoc' (sky.drop i) m x (by rw [List.getElem?_drop]; exact hx), List.foldl_append]
  rfl
theorem topTo_range {sky : List Int} (hs : ∀ x ∈ sky, 0 ≤ x ∧ x ≤ 256) (i m : Nat) : 0 ≤ topTo sky i m ∧ topTo sky i m ≤ 256 := by
  unfold topTo
  have h := foldl_max_mem ((sky.drop i).take m) 0
  rcases List.mem_cons.1 h with h | h
  · rw [h]; omega
  · exact hs _ (List.mem_of_mem_drop (List.mem_of_mem_take h))
theorem topTo_hgt {sky : List Int} (hs : ∀ x ∈ sky, 0 ≤ x ∧ x ≤ 256) {i m : Nat} (hm : 0 < m) (hi : i + m ≤ sky.length) : topTo sky i m = hgt sky i m := by
  unfold topTo hgt
  refine foldl_max_zero (fun x hx => (hs x (List.mem_of_mem_drop (List.mem_of_mem_take hx))).1) fun e => ?_
  have := congrArg List.length e
  simp only [List.length_take, List.length_drop, List.length_nil] at this; omega

/-- what the law asks of a place -/
structure Lowest (sky : List Int) (q : Nat) (h most : Int) (t : Int × Int × Bool) : Prop where
  no : t.2.2 = false → ∀ i, i + q ≤ sky.length → ¬ hgt sky i q + h ≤ most
  yes : t.2.2 = true → ∃ x : Nat, t.1 = x ∧ x + q ≤ sky.length ∧ t.2.1 = hgt sky x q ∧ t.2.1 + h ≤ most ∧ 0 ≤ t.2.1 ∧ t.2.1 ≤ 256 ∧ (∀ i, i + q ≤ sky.length → hgt sky i q < t.2.1 → False) ∧ (∀ i, i + q ≤ sky.length → hgt sky i q = t.2.1 → i < x → False)
theorem lowest_of {sky : List Int} {q : Nat} {h most : Int} (hq : 1 ≤ q) (hh : 1 ≤ h) (hs : ∀ x ∈ sky, 0 ≤ x ∧ x ≤ 256) : Lowest sky q h most (findS sky q h most) := by
  obtain ⟨h1, h2⟩ := findTo_found sky q h most (sky.length + 1 - q)
  have e : findS sky (q : Int) h most = findTo sky q h most (sky.length + 1 - q) := by unfold findS; rw [Int.toNat_natCast]
  rw [e]
  refine ⟨fun hf i hi => (h2 hf).2 i (by omega), fun hf => ?_⟩
  obtain ⟨x, hx, ha, hb, hm, hmin, hmin'⟩ := h1 hf
  have hr := hs _ (hgt_mem (sky := sky) (k := x) (n := q) (by omega) (by omega))
  refine ⟨x, ha, by omega, hb, by omega, by omega, by omega, fun i hi hlt => ?_, fun i hi heq hlt => ?_⟩
  · have := hmin i (by omega) (by omega); omega
  · have := hmin' i hlt (by omega); omega

/-- is most, or one of the first k columns, none? -/
def badTo (sky : List Int) (most : Int) (k : Nat) : Bool := !(texel most) || !((sky.take k).all level)
theorem badTo_succ {sky : List Int} {most : Int} {k : Nat} {x : Int} (hx : sky[k]? = some x) : badTo sky most (k + 1) = (badTo sky most k || !level x) := by
  unfold badTo
  rw [take_snoc' _ _ _ hx, List.all_append]
  simp [Bool.or_assoc]
theorem place_bad {sky : List Int} {w h most : Int} (hb : badTo sky most sky.length = true) : placeS sky w h most = (0, 0, false) := by
  apply placeS_no
  unfold badTo at hb
  rw [List.take_length] at hb
  simp only [Bool.or_eq_true, Bool.not_eq_true'] at hb
  unfold skyOk
  rcases hb with hb | hb <;> rw [hb] <;> simp
theorem place_good {sky : List Int} {w h most : Int} (hb : badTo sky most sky.length = false) (hl : sky.length ≤ 256) (hw : 1 ≤ w ∧ w ≤ 256) (hh : 1 ≤ h ∧ h ≤ 256) :
    placeS sky w h most = findS sky w h most ∧ (1 ≤ most ∧ most ≤ 256) ∧ ∀ x ∈ sky, 0 ≤ x ∧ x ≤ 256 := by
  unfold badTo at hb
  rw [List.take_length] at hb
  simp only [Bool.or_eq_false_iff, Bool.not_eq_false'] at hb
  have h1 := texel_iff.1 hb.1
  have h2 : ∀ x ∈ sky, 0 ≤ x ∧ x ≤ 256 := fun x hx => level_iff.1 (List.all_eq_true.1 hb.2 x hx)
  refine ⟨placeS_yes ?_, h1, h2⟩
  rw [skyOk_iff.2 ⟨hl, h2⟩, texel_iff.2 hw, texel_iff.2 hh, hb.1]; rfl

set_option maxRecDepth 100000 in
theorem lowest_big (A : Option Addr) (n c : Nat) (ww h most : Int) (w : World) (hbig : 40 < n ∨ ww < 1 ∨ 256 < ww ∨ h < 1 ∨ 256 < h) (hn : n ≤ 9223372036854775807) :
    Calls Try.prog 7 #[.slice A n c, .int .i64 ww, .int .i64 h, .int .i64 most] w fun e w' => e = .returned (.bool true) ∧ Below w.heap.size w w' := by
  by_cases h1 : 40 < n
  · have d1 : decide ((40 : Int) < (n : Int)) = true := decide_eq_true (by omega)
    go_enter Try.func7, Try.ntmps7
    go_wp2_with fail
    go_ret
    exact ⟨rfl, Below.refl _ _⟩
  have d1 : decide ((40 : Int) < (n : Int)) = false := decide_eq_false (by omega)
  by_cases h2 : ww < 1
  · have d2 : decide (ww < 1) = true := decide_eq_true h2
    go_enter Try.func7, Try.ntmps7
    go_wp2_with fail
    go_ret
    exact ⟨rfl, Below.refl _ _⟩
  have d2 : decide (ww < 1) = false := decide_eq_false h2
  by_cases h3 : 256 < ww
  · have d3 : decide (256 < ww) = true := decide_eq_true h3
    go_enter Try.func7, Try.ntmps7
    go_wp2_with fail
    go_ret
    exact ⟨rfl, Below.refl _ _⟩
  have d3 : decide (256 < ww) = false := decide_eq_false h3
  by_cases h4 : h < 1
  · have d4 : decide (h < 1) = true := decide_eq_true h4
    go_enter Try.func7, Try.ntmps7
    go_wp2_with fail
    go_ret
    exact ⟨rfl, Below.refl _ _⟩
  have d4 : decide (h < 1) = false := decide_eq_false h4
  have d5 : decide (256 < h) = true := decide_eq_true (by omega)
  go_enter Try.func7, Try.ntmps7
  go_wp2_with fail
  go_ret
  exact ⟨rfl, Below.refl _ _⟩

set_option maxRecDepth 100000 in
set_option maxHeartbeats 3200000 in
theorem lowest_law (A : Option Addr) (n c : Nat) (sky : List Int) (ww h most : Int) (w : World) (hI : Ints w w.heap.size A n sky) (hc : n ≤ c) (hcm : c ≤ maxLen) (bw : i64b ww) (bh : i64b h) (bm : i64b most) :
    Calls Try.prog 7 #[.slice A n c, .int .i64 ww, .int .i64 h, .int .i64 most] w fun e w' => e = .returned (.bool true) ∧ Below w.heap.size w w' := by
  by_cases hbig : 40 < n ∨ ww < 1 ∨ 256 < ww ∨ h < 1 ∨ 256 < h
  · exact lowest_big A n c ww h most w hbig hI.len
  have d1 : decide ((40 : Int) < (n : Int)) = false := decide_eq_false (by omega)
  have d2 : decide (ww < 1) = false := decide_eq_false (by omega)
  have d3 : decide (256 < ww) = false := decide_eq_false (by omega)
  have d4 : decide (h < 1) = false := decide_eq_false (by omega)
  have d5 : decide (256 < h) = false := decide_eq_false (by omega)
  have hn40 : n ≤ 40 := by omega
  have hw1 : 1 ≤ ww := by omega
  have hw2 : ww ≤ 256 := by omega
  have hh1 : 1 ≤ h := by omega
  have hh2 : h ≤ 256 := by omega
  clear hbig bw bh
  obtain ⟨q, rfl⟩ : ∃ q : Nat, ww = (q : Int) := ⟨ww.toNat, by omega⟩
  have hpl := Lib.hid (place_any A n c sky q h most w hI hc hcm ⟨by omega, by omega⟩ ⟨by omega, by omega⟩ bm)
  obtain ⟨bm1, bm2⟩ := bm
  have hlen := Lib.hid hI.length
  obtain ⟨⟨px, py, ok⟩, hst⟩ : ∃ t, placeS sky q h most = t := ⟨_, rfl⟩
  rw [hst] at hpl
  have HST := Lib.hid hst; clear hst
  go_enter Try.func7, Try.ntmps7
  go_wp2_with fail
  refine hpl.out.mono ?_
  rintro e w1 ⟨rfl, hb1⟩
  have hI1 := hI.below hb1 (Nat.le_refl _)
  clear hI
  simp only
  have hcase : (decide (most < 1) = true ∧ badTo sky most 0 = true) ∨ (decide (most < 1) = false ∧ decide (256 < most) = true ∧ badTo sky most 0 = true) ∨ (decide (most < 1) = false ∧ decide (256 < most) = false ∧ badTo sky most 0 = false) := by
    by_cases m1 : most < 1
    · exact .inl ⟨decide_eq_true m1, by simp [badTo, texel_lo m1]⟩
    by_cases m2 : 256 < most
    · exact .inr (.inl ⟨decide_eq_false m1, decide_eq_true m2, by simp [badTo, texel_hi m2]⟩)
    · exact .inr (.inr ⟨decide_eq_false m1, decide_eq_false m2, by simp [badTo, texel_of (Int.not_lt.1 m1) (Int.not_lt.1 m2)]⟩)
  rcases hcase with ⟨m1, hb0⟩ | ⟨m1, m2, hb0⟩ | ⟨m1, m2, hb0⟩
  · have HB0 := Lib.hid hb0; clear hb0
    go_wp2_with fail
    refine wp_loop_mix [(12, 13), (51, 71)] (fun f wr => ∃ k : Nat, k ≤ n ∧ f 13 = .int .i64 k ∧ f 12 = .bool (badTo sky most k) ∧ w1 = wr) (fun f _ => n - (intOf (f 13)).toNat) ⟨0, by omega, rfl, (by show Value.bool _ = _; rw [HB0.out]), rfl⟩ ?_
    rintro f wr ⟨k, hk, h13, h12, rfl⟩ K hK
    simp (config := { decide := true }) only [mix_in, mix_out, mix_nil, Nat.reduceAdd]
    rw [h13] at hK ⊢
    rw [h12]
    clear h12 h13
    by_cases hlt : k < n
    · obtain ⟨ad, x, rfl, hbk, hx, hm, hcell, hlo, hhi⟩ := hI1.get hlt
      have HX := Lib.hid hx; clear hx hm
      have hk0 : (0 : Int) ≤ (k : Int) := by omega
      have hk1 : (k : Int) < (n : Int) := by omega
      have hnext := Lib.hid (badTo_succ (most := most) HX.out)
      have hmeas : n - ((k : Int) + 1).toNat < n - (k : Int).toNat := by omega
      cases hbk2 : badTo sky most k with
      | true =>
        have HB := Lib.hid hbk2; clear hbk2
        go_wp2_with fail
        exact MixEnd.intro (by kernel_rfl) ⟨k + 1, by omega, (by show Value.int .i64 ((k : Int) + 1) = _; go_num), (by show Value.bool true = _; rw [hnext.out, HB.out]; rfl), rfl⟩ hmeas
      | false =>
        have HB := Lib.hid hbk2; clear hbk2
        by_cases x1 : x < 0
        · have u1 : decide (x < 0) = true := decide_eq_true x1
          go_wp2_with fail
          exact MixEnd.intro (by kernel_rfl) ⟨k + 1, by omega, (by show Value.int .i64 ((k : Int) + 1) = _; go_num), (by show Value.bool true = _; rw [hnext.out, HB.out]; simp [level]; omega), rfl⟩ hmeas
        have u1 : decide (x < 0) = false := decide_eq_false x1
        by_cases x2 : 256 < x
        · have u2 : decide (256 < x) = true := decide_eq_true x2
          go_wp2_with fail
          exact MixEnd.intro (by kernel_rfl) ⟨k + 1, by omega, (by show Value.int .i64 ((k : Int) + 1) = _; go_num), (by show Value.bool true = _; rw [hnext.out, HB.out]; simp [level]; omega), rfl⟩ hmeas
        · have u2 : decide (256 < x) = false := decide_eq_false x2
          go_wp2_with fail
          exact MixEnd.intro (by kernel_rfl) ⟨k + 1, by omega, (by show Value.int .i64 ((k : Int) + 1) = _; go_num), (by show Value.bool false = _; rw [hnext.out, HB.out]; simp [level]; omega), rfl⟩ hmeas
    · obtain rfl : k = n := by omega
      cases hbk2 : badTo sky most k with
      | true =>
        have hbad := HST.out
        rw [place_bad (by rw [hlen.out]; exact hbk2)] at hbad
        cases hbad
        have HB := Lib.hid hbk2; clear hbk2
        go_wp2_with fail
        refine (shelved_any _).mono ?_
        rintro e w2 ⟨rfl, hb2⟩
        go_wp2_with fail
        go_ret
        exact ⟨rfl, hb1.trans (hb2.mono hb1.size)⟩
      | false =>
        exfalso
        have h0 := HB0.out
        unfold badTo at hbk2 h0
        simp only [Bool.or_eq_false_iff, List.take_zero, List.all_nil, Bool.not_true, Bool.or_false] at hbk2 h0
        rw [hbk2.1] at h0; cases h0
  · have HB0 := Lib.hid hb0; clear hb0
    go_wp2_with fail
    refine wp_loop_mix [(12, 13), (51, 71)] (fun f wr => ∃ k : Nat, k ≤ n ∧ f 13 = .int .i64 k ∧ f 12 = .bool (badTo sky most k) ∧ w1 = wr) (fun f _ => n - (intOf (f 13)).toNat) ⟨0, by omega, rfl, (by show Value.bool _ = _; rw [HB0.out]), rfl⟩ ?_
    rintro f wr ⟨k, hk, h13, h12, rfl⟩ K hK
    simp (config := { decide := true }) only [mix_in, mix_out, mix_nil, Nat.reduceAdd]
    rw [h13] at hK ⊢
    rw [h12]
    clear h12 h13
    by_cases hlt : k < n
    · obtain ⟨ad, x, rfl, hbk, hx, hm, hcell, hlo, hhi⟩ := hI1.get hlt
      have HX := Lib.hid hx; clear hx hm
      have hk0 : (0 : Int) ≤ (k : Int) := by omega
      have hk1 : (k : Int) < (n : Int) := by omega
      have hnext := Lib.hid (badTo_succ (most := most) HX.out)
      have hmeas : n - ((k : Int) + 1).toNat < n - (k : Int).toNat := by omega
      cases hbk2 : badTo sky most k with
      | true =>
        have HB := Lib.hid hbk2; clear hbk2
        go_wp2_with fail
        exact MixEnd.intro (by kernel_rfl) ⟨k + 1, by omega, (by show Value.int .i64 ((k : Int) + 1) = _; go_num), (by show Value.bool true = _; rw [hnext.out, HB.out]; rfl), rfl⟩ hmeas
      | false =>
        have HB := Lib.hid hbk2; clear hbk2
        by_cases x1 : x < 0
        · have u1 : decide (x < 0) = true := decide_eq_true x1
          go_wp2_with fail
          exact MixEnd.intro (by kernel_rfl) ⟨k + 1, by omega, (by show Value.int .i64 ((k : Int) + 1) = _; go_num), (by show Value.bool true = _; rw [hnext.out, HB.out]; simp [level]; omega), rfl⟩ hmeas
        have u1 : decide (x < 0) = false := decide_eq_false x1
        by_cases x2 : 256 < x
        · have u2 : decide (256 < x) = true := decide_eq_true x2
          go_wp2_with fail
          exact MixEnd.intro (by kernel_rfl) ⟨k + 1, by omega, (by show Value.int .i64 ((k : Int) + 1) = _; go_num), (by show Value.bool true = _; rw [hnext.out, HB.out]; simp [level]; omega), rfl⟩ hmeas
        · have u2 : decide (256 < x) = false := decide_eq_false x2
          go_wp2_with fail
          exact MixEnd.intro (by kernel_rfl) ⟨k + 1, by omega, (by show Value.int .i64 ((k : Int) + 1) = _; go_num), (by show Value.bool false = _; rw [hnext.out, HB.out]; simp [level]; omega), rfl⟩ hmeas
    · obtain rfl : k = n := by omega
      cases hbk2 : badTo sky most k with
      | true =>
        have hbad := HST.out
        rw [place_bad (by rw [hlen.out]; exact hbk2)] at hbad
        cases hbad
        have HB := Lib.hid hbk2; clear hbk2
        go_wp2_with fail
        refine (shelved_any _).mono ?_
        rintro e w2 ⟨rfl, hb2⟩
        go_wp2_with fail
        go_ret
        exact ⟨rfl, hb1.trans (hb2.mono hb1.size)⟩
      | false =>
        exfalso
        have h0 := HB0.out
        unfold badTo at hbk2 h0
        simp only [Bool.or_eq_false_iff, List.take_zero, List.all_nil, Bool.not_true, Bool.or_false] at hbk2 h0
        rw [hbk2.1] at h0; cases h0
  · have HB0 := Lib.hid hb0; clear hb0
    go_wp2_with fail
    refine wp_loop_mix [(12, 13), (51, 71)] (fun f wr => ∃ k : Nat, k ≤ n ∧ f 13 = .int .i64 k ∧ f 12 = .bool (badTo sky most k) ∧ w1 = wr) (fun f _ => n - (intOf (f 13)).toNat) ⟨0, by omega, rfl, (by show Value.bool _ = _; rw [HB0.out]), rfl⟩ ?_
    rintro f wr ⟨k, hk, h13, h12, rfl⟩ K hK
    simp (config := { decide := true }) only [mix_in, mix_out, mix_nil, Nat.reduceAdd]
    rw [h13] at hK ⊢
    rw [h12]
    clear h12 h13
    by_cases hlt : k < n
    · obtain ⟨ad, x, rfl, hbk, hx, hm, hcell, hlo, hhi⟩ := hI1.get hlt
      have HX := Lib.hid hx; clear hx hm
      have hk0 : (0 : Int) ≤ (k : Int) := by omega
      have hk1 : (k : Int) < (n : Int) := by omega
      have hnext := Lib.hid (badTo_succ (most := most) HX.out)
      have hmeas : n - ((k : Int) + 1).toNat < n - (k : Int).toNat := by omega
      cases hbk2 : badTo sky most k with
      | true =>
        have HB := Lib.hid hbk2; clear hbk2
        go_wp2_with fail
        exact MixEnd.intro (by kernel_rfl) ⟨k + 1, by omega, (by show Value.int .i64 ((k : Int) + 1) = _; go_num), (by show Value.bool true = _; rw [hnext.out, HB.out]; rfl), rfl⟩ hmeas
      | false =>
        have HB := Lib.hid hbk2; clear hbk2
        by_cases x1 : x < 0
        · have u1 : decide (x < 0) = true := decide_eq_true x1
          go_wp2_with fail
          exact MixEnd.intro (by kernel_rfl) ⟨k + 1, by omega, (by show Value.int .i64 ((k : Int) + 1) = _; go_num), (by show Value.bool true = _; rw [hnext.out, HB.out]; simp [level]; omega), rfl⟩ hmeas
        have u1 : decide (x < 0) = false := decide_eq_false x1
        by_cases x2 : 256 < x
        · have u2 : decide (256 < x) = true := decide_eq_true x2
          go_wp2_with fail
          exact MixEnd.intro (by kernel_rfl) ⟨k + 1, by omega, (by show Value.int .i64 ((k : Int) + 1) = _; go_num), (by show Value.bool true = _; rw [hnext.out, HB.out]; simp [level]; omega), rfl⟩ hmeas
        · have u2 : decide (256 < x) = false := decide_eq_false x2
          go_wp2_with fail
          exact MixEnd.intro (by kernel_rfl) ⟨k + 1, by omega, (by show Value.int .i64 ((k : Int) + 1) = _; go_num), (by show Value.bool false = _; rw [hnext.out, HB.out]; simp [level]; omega), rfl⟩ hmeas
    · obtain rfl : k = n := by omega
      cases hbk2 : badTo sky most k with
      | true =>
        have hbad := HST.out
        rw [place_bad (by rw [hlen.out]; exact hbk2)] at hbad
        cases hbad
        have HB := Lib.hid hbk2; clear hbk2
        go_wp2_with fail
        refine (shelved_any _).mono ?_
        rintro e w2 ⟨rfl, hb2⟩
        go_wp2_with fail
        go_ret
        exact ⟨rfl, hb1.trans (hb2.mono hb1.size)⟩
      | false =>
        obtain ⟨hgood, ⟨mo1, mo2⟩, hsky⟩ := place_good (h := h) (by rw [hlen.out]; exact hbk2) (by rw [hlen.out]; omega) ⟨hw1, hw2⟩ ⟨hh1, hh2⟩
        rw [HST.out] at hgood
        have hlow : Lowest sky q h most (px, py, ok) := by rw [hgood]; exact lowest_of (by omega) hh1 hsky
        have HLOW := Lib.hid hlow
        have HB := Lib.hid hbk2; clear hbk2 hgood hlow m1 m2 HB0
        go_wp2_with fail
        refine wp_loop_mix [(8, 8), (14, 16), (86, 145)] (fun f wr => ∃ i : Nat, i ≤ k ∧ f 14 = .int .i64 i ∧ w1 = wr) (fun f _ => k + 1 - (intOf (f 14)).toNat) ⟨0, by omega, rfl, rfl⟩ ?_
        rintro f wr ⟨i, hi, h14, rfl⟩ K hK
        simp (config := { decide := true }) only [mix_in, mix_out, mix_nil, Nat.reduceAdd]
        rw [h14] at hK ⊢
        clear h14
        have hi0 : (0 : Int) ≤ (i : Int) := by omega
        by_cases hiq : (i : Int) + q ≤ k
        · have e1 : decide ((i : Int) + q ≤ k) = true := decide_eq_true hiq
          go_wp2_with fail
          refine wp_loop_mix [(15, 16), (95, 107)] (fun f wr => ∃ m : Nat, m ≤ q ∧ f 16 = .int .i64 (i + m : Nat) ∧ f 15 = .int .i64 (topTo sky i m) ∧ w1 = wr) (fun f _ => i + q - (intOf (f 16)).toNat) ⟨0, by omega, rfl, rfl, rfl⟩ ?_
          rintro f' wr ⟨m, hm, h16, h15, rfl⟩ K' hK'
          simp (config := { decide := true }) only [mix_in, mix_out, mix_nil, Nat.reduceAdd]
          rw [h16] at hK' ⊢
          rw [h15]
          clear h15 h16
          obtain ⟨tp1, tp2⟩ := topTo_range hsky i m
          by_cases hmq : m < q
          · obtain ⟨ad, x, rfl, hbk, hx, hxm, hcell, hlo, hhi⟩ := hI1.get (k := i + m) (by omega)
            have hnext := Lib.hid (topTo_succ hx)
            have hmeas : i + q - ((i + m : Nat) + 1 : Int).toNat < i + q - ((i + m : Nat) : Int).toNat := by omega
            clear hx hxm
            generalize htp : topTo sky i m = tp at *
            have HTP := Lib.hid htp; clear htp
            have hj0 : (0 : Int) ≤ ((i + m : Nat) : Int) := by omega
            have hj1 : ((i + m : Nat) : Int) < (k : Int) := by omega
            have e2 : decide (((i + m : Nat) : Int) < (i : Int) + q) = true := decide_eq_true (by omega)
            have hmx : (if tp < x then x else tp) = max tp x := by rw [Int.max_def]; split <;> split <;> omega
            go_wp2_with fail
            exact MixEnd.intro (by kernel_rfl) ⟨m + 1, by omega, (by show Value.int .i64 (((i + m : Nat) : Int) + 1) = _; go_num), (by show Value.int .i64 (max tp x) = _; rw [hnext.out]), rfl⟩ hmeas
          · obtain rfl : m = q := by omega
            rw [topTo_hgt hsky (by omega) (by rw [hlen.out]; omega)] at tp1 tp2 ⊢
            have hno := fun hf => HLOW.out.no hf i (by rw [hlen.out]; omega)
            have hyes := HLOW.out.yes
            simp only at hno hyes
            generalize htp : hgt sky i m = tp at *
            have HTP := Lib.hid htp; clear htp
            have e2 : decide (((i + m : Nat) : Int) < (i : Int) + m) = false := decide_eq_false (by omega)
            have hmeas2 : k + 1 - ((i : Int) + 1).toNat < k + 1 - (i : Int).toNat := by omega
            cases ok with
            | false =>
              have e3 : decide (tp + h ≤ most) = false := decide_eq_false (hno rfl)
              clear hyes hno
              go_wp2_with fail
              exact MixEnd.intro (by kernel_rfl) ⟨i + 1, by omega, (by show Value.int .i64 ((i : Int) + 1) = _; go_num), rfl⟩ hmeas2
            | true =>
              obtain ⟨x0, rfl, y1, y2, y3, y4, y5, y6, y7⟩ := hyes rfl
              clear hno hyes
              have Y2 := Lib.hid y2; clear y2
              have Y6 := Lib.hid (y6 i (by rw [hlen.out]; omega)); clear y6
              have Y7 := Lib.hid (y7 i (by rw [hlen.out]; omega)); clear y7
              have hge : ¬ tp < py := fun hh => Y6.out (by rw [HTP.out]; exact hh)
              have e3 : decide (tp < py) = false := decide_eq_false hge
              by_cases hty : tp = py
              · have e4 : (tp == py) = true := beq_iff_eq.2 hty
                have e5 : decide ((i : Int) < (x0 : Int)) = false := decide_eq_false (fun hh => Y7.out (by rw [HTP.out]; exact hty) (by omega))
                have e5' : decide (i < x0) = false := decide_eq_false (fun hh => Y7.out (by rw [HTP.out]; exact hty) hh)
                have e6 : (tp != py) = false := by rw [bne_eq_false_iff_eq]; exact hty
                have HTY := Lib.hid hty; clear hty
                by_cases hix : i = x0
                · have e7 : ((i : Int) == (x0 : Int)) = true := beq_iff_eq.2 (by omega)
                  have e7' : (i == x0) = true := beq_iff_eq.2 hix
                  have HIX := Lib.hid hix; clear hix
                  go_wp2_with fail
                  exact MixEnd.intro (by kernel_rfl) ⟨i + 1, by omega, (by show Value.int .i64 ((i : Int) + 1) = _; go_num), rfl⟩ hmeas2
                · have e7 : ((i : Int) == (x0 : Int)) = false := beq_eq_false_iff_ne.2 (by omega)
                  have e7' : (i == x0) = false := beq_eq_false_iff_ne.2 hix
                  clear hix
                  go_wp2_with fail
                  exact MixEnd.intro (by kernel_rfl) ⟨i + 1, by omega, (by show Value.int .i64 ((i : Int) + 1) = _; go_num), rfl⟩ hmeas2
              · have e4 : (tp == py) = false := beq_eq_false_iff_ne.2 hty
                have hne : ¬ i = x0 := (fun hh => hty (by
                  subst hh
                  rw [← HTP.out, Y2.out]))
                have e7 : ((i : Int) == (x0 : Int)) = false := beq_eq_false_iff_ne.2 (by omega)
                have e7' : (i == x0) = false := beq_eq_false_iff_ne.2 hne
                clear hty hne
                go_wp2_with fail
                exact MixEnd.intro (by kernel_rfl) ⟨i + 1, by omega, (by show Value.int .i64 ((i : Int) + 1) = _; go_num), rfl⟩ hmeas2
        · have e1 : decide ((i : Int) + q ≤ k) = false := decide_eq_false hiq
          have hyes := HLOW.out.yes
          simp only at hyes
          cases ok with
          | false =>
            clear hyes
            go_wp2_with fail
            refine (shelved_any _).mono ?_
            rintro e w2 ⟨rfl, hb2⟩
            go_wp2_with fail
            go_ret
            exact ⟨rfl, hb1.trans (hb2.mono hb1.size)⟩
          | true =>
            obtain ⟨x0, rfl, y1, y2, y3, y4, y5, y6, y7⟩ := hyes rfl
            clear hyes y2 y6 y7
            rw [hlen.out] at y1
            have e3 : decide (py + h ≤ most) = true := decide_eq_true y3
            have e4 : decide ((0 : Int) ≤ (x0 : Int)) = true := decide_eq_true (by omega)
            have e5 : decide ((x0 : Int) + q ≤ k) = true := decide_eq_true (by omega)
            have e6 : (0 : Int) ≤ (x0 : Int) := by omega
            go_wp2_with fail
            refine (shelved_any _).mono ?_
            rintro e w2 ⟨rfl, hb2⟩
            go_wp2_with fail
            go_ret
            exact ⟨rfl, hb1.trans (hb2.mono hb1.size)⟩
end Go.Proofs.Ytneoacbacflehaa
