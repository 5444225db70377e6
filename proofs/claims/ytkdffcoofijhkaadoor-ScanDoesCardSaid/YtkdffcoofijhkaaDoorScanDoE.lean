/-
  THE WALK OF limewashref05's Parse.
-/
import Derived.Test.YtkdffcoofijhkaaDoorScanDoD
import Derived.Test.YtkdffcoofijhkaaDoorNumB
import Derived.Test.YtkdffcoofijhkaaDoorHeldE
import Derived.Test.YtkdffcoofijhkaaDoorScanWalkC
set_option linter.unusedVariables false
set_option linter.unusedSimpArgs false
set_option maxRecDepth 8000
namespace Go.Proofs.YtkdffcoofijhkaaDoor
open Go.RowKit

theorem pds_all (l : List UInt8) (h : decOk l = true) : (pds (signedS l).1).all isDig = true := by
  rw [decOk_eq] at h
  simp only [Bool.and_eq_true] at h
  have h2 := h.1.2
  unfold pok at h2
  unfold pds
  rw [List.all_append]
  exact h2
theorem not_neg (N : Nat) : false = decide ((N : Int) < 0) := (decide_eq_false (by omega)).symm
theorem pow_big {N : Nat} (h : N < 10 ^ 40) : ((N : Int)).natAbs < 10 ^ 100 := by
  rw [Int.natAbs_natCast]
  exact Nat.lt_of_lt_of_le h (Nat.pow_le_pow_right (by decide) (by decide))
theorem ofintN (N : Nat) (z : Int) (hz : z = (N : Int)) (h : N ≤ 9223372036854775807) (W : World) : Calls Tryd.prog 47 #[.int .i64 z] W (NumB W false (N : Int)) := by
  subst hz
  exact ofint_b (N : Int) false W (by unfold i64b; omega) (not_neg N)
theorem timesN (N M : Nat) (hN : N < 10 ^ 40) (hM : M < 10 ^ 40) (W : World) (A1 : Option Addr) (n1 c1 : Nat) (A2 : Option Addr) (n2 c2 : Nat) (h1 : NumAt W W.heap.size A1 n1 c1 (N : Int)) (h2 : NumAt W W.heap.size A2 n2 c2 (M : Int)) :
    Calls Tryd.prog 49 #[.agg #[.bool false, .slice A1 n1 c1], .agg #[.bool false, .slice A2 n2 c2]] W (NumB W false ((N * M : Nat) : Int)) := by
  have h := times_b A1 A2 n1 c1 n2 c2 (N : Int) (M : Int) false false false W h1 h2 (h1.few (pow_big hN)) (h2.few (pow_big hM)) (not_neg N) (not_neg M) (by
    have := not_neg (N * M)
    rwa [Int.natCast_mul] at this)
  rwa [← Int.natCast_mul] at h
theorem sumN (N M : Nat) (hN : N < 10 ^ 40) (hM : M < 10 ^ 40) (W : World) (A1 : Option Addr) (n1 c1 : Nat) (A2 : Option Addr) (n2 c2 : Nat) (h1 : NumAt W W.heap.size A1 n1 c1 (N : Int)) (h2 : NumAt W W.heap.size A2 n2 c2 (M : Int)) :
    Calls Tryd.prog 48 #[.agg #[.bool false, .slice A1 n1 c1], .agg #[.bool false, .slice A2 n2 c2]] W (NumB W false ((N + M : Nat) : Int)) := by
  have h := sum_b A1 A2 n1 c1 n2 c2 (N : Int) (M : Int) false false false W h1 h2 (h1.few (pow_big hN)) (h2.few (pow_big hM)) (not_neg N) (not_neg M) (by
    have := not_neg (N + M)
    rwa [Int.natCast_add] at this)
  rwa [← Int.natCast_add] at h
theorem small20 (u : List UInt8) (k : Nat) (h : u.all isDig = true) (hl : u.length ≤ 20) : numD (u.take k) < 10 ^ 20 :=
  numD_le_len _ 20 (by
    rw [List.all_eq_true] at h ⊢
    exact fun c hc => h c (List.mem_of_mem_take hc)) (by simp; omega)
theorem big40 {a b : Nat} (h : a < 10 ^ 20) (hb : b ≤ 1000) : a * b < 10 ^ 40 := by
  have : a * b ≤ a * 1000 := Nat.mul_le_mul_left _ hb
  have : a * 1000 < 10 ^ 40 := by omega
  omega

set_option maxHeartbeats 1600000 in
theorem sparseref_bad (l : List UInt8) (w : World) (hl : l.length ≤ 100000) (h : decOk l = false) : Calls Tryd.prog 20 #[.string ⟨l.toArray⟩] w (NE2 w (0, 6)) := by
  have K := Lib.hid (parts_any l w hl)
  have FIN : Hid (∀ w', Below w.heap.size w w' → NE2 w (0, 6) (.returned (.tuple #[.int .i64 0, .int .i64 6])) w') := Lib.hid fun w' hb => ⟨rfl, hb⟩
  generalize NE2 w (0, 6) = Qp at FIN ⊢
  have HN := Lib.hid h; clear h
  go_enter Tryd.func20, Tryd.ntmps20
  go_wp2_with fail
  refine K.out.mono ?_
  clear K
  rintro e w1 ⟨hb1, hh⟩
  have HB := Lib.hid hb1; clear hb1
  rcases hh with ⟨_, bb, A, n, c, v, rfl⟩ | ⟨h1, _⟩
  · go_wp2_with fail
    first | exact FIN.out _ HB.out | (go_ret2; exact FIN.out _ HB.out)
  · rw [HN.out] at h1; cases h1

set_option maxHeartbeats 6400000 in
theorem sparseref_good (l : List UInt8) (w : World) (hl : l.length ≤ 20) (h : decOk l = true) : Calls Tryd.prog 20 #[.string ⟨l.toArray⟩] w (NE2 w (parseS l)) := by
  obtain ⟨u, hu⟩ : ∃ u, pds (signedS l).1 = u := ⟨_, rfl⟩
  obtain ⟨b, hb⟩ : ∃ b, (signedS l).2 = b := ⟨_, rfl⟩
  obtain ⟨K, hK⟩ : ∃ K, (cut1 46 (signedS l).1).2.1.length = K := ⟨_, rfl⟩
  have hall := pds_all l h
  have hq := Nat.le_trans (pds_len (signedS l).1) (show (signedS l).1.length ≤ 20 by
    rcases signed_cases l with ⟨t, rfl, e⟩ | ⟨t, rfl, e⟩ | ⟨_, _, e⟩ <;> rw [e] <;> simp at hl ⊢ <;> omega)
  have hKu : K ≤ 20 := by
    have h1 : (cut1 46 (signedS l).1).2.1.length ≤ (pds (signedS l).1).length := by unfold pds; simp
    omega
  have HPR := Lib.hid (fun D (hD : numD u = D) => parse_ref l D K b h hb (by rw [hu]; exact hD) hK)
  have HPA := Lib.hid (parts_any l w (by omega))
  unfold PartsR at HPA
  rw [hu, hb, hK] at HPA
  rw [hu] at hall hq
  have HALL := Lib.hid hall
  obtain ⟨q, hqq⟩ : ∃ q, u.length = q := ⟨_, rfl⟩
  rw [hqq] at HPA hq
  have HLEN := Lib.hid hqq
  have HYES := Lib.hid h
  clear h hu hb hK hall hqq
  have FIN : Hid (∀ z D w', numD u = D → z = refZ b (decide (D * 256 % 10 ^ K ≠ 0)) (min (D * 256 / 10 ^ K) 2000000) → ¬ (z < -1048576 ∨ 1048576 < z) → Below w.heap.size w w' → NE2 w (parseS l) (.returned (.tuple #[.int .i64 z, .int .i64 0])) w') := Lib.hid (by
    rintro z D w' hD hz hr hb
    have := HPR.out D hD
    rw [← hz, if_neg hr] at this
    rw [this]; exact ⟨rfl, hb⟩)
  have FIN2 : Hid (∀ z D w', numD u = D → z = refZ b (decide (D * 256 % 10 ^ K ≠ 0)) (min (D * 256 / 10 ^ K) 2000000) → (z < -1048576 ∨ 1048576 < z) → Below w.heap.size w w' → NE2 w (parseS l) (.returned (.tuple #[.int .i64 0, .int .i64 5])) w') := Lib.hid (by
    rintro z D w' hD hz hr hb
    have := HPR.out D hD
    rw [← hz, if_pos hr] at this
    rw [this]; exact ⟨rfl, hb⟩)
  generalize NE2 w (parseS l) = Qp at FIN FIN2 ⊢
  clear HPR
  go_enter Tryd.func20, Tryd.ntmps20
  go_wp2_with fail
  refine HPA.out.mono ?_
  clear HPA
  rintro e w1 ⟨hb1, hh⟩
  rcases hh with ⟨h1, _⟩ | ⟨_, Ad, cd, rfl, hown⟩
  · rw [HYES.out] at h1; cases h1
  have HD9 : Hid (∀ d ∈ dis u, -9223372036854775808 ≤ d ∧ d ≤ 9223372036854775807) := Lib.hid (by
    intro d hd
    obtain ⟨c, hc, rfl⟩ := List.mem_map.1 hd
    have := dv_le (List.all_eq_true.1 HALL.out c hc)
    omega)
  have HI0 : Hid (Ints w1 w1.heap.size Ad q (dis u)) := Lib.hid (Ints.of_own hown HD9.out (by omega))
  have HB1 := Lib.hid hb1
  clear hb1 hown HYES
  have O0 := Lib.hid (fun W => ofintN 0 0 rfl (by omega) W)
  go_wp2_with fail
  refine (O0.out _).mono ?_
  clear O0
  rintro e w2 ⟨A0, n0, c0, rfl, hN0, hp0, hx0⟩
  have HI0 := Lib.hid ((HI0.out.below hx0 (Nat.le_refl _)).more hx0.size)
  have HB1 := Lib.hid (HB1.out.trans (hx0.mono HB1.out.size))
  have HN0 := Lib.hid hN0
  clear hx0 hN0 hp0
  obtain ⟨g, hg⟩ : ∃ g, w2.heap.size = g := ⟨_, rfl⟩
  have HS0 : Hid (SlotN (w2.alloc (.cells #[.bool false, .slice A0 n0 c0] 72)) g [.bool false, .slice A0 n0 c0]) := Lib.hid (by rw [← hg]; exact SlotN.new _ _ _ _ rfl)
  have hba : Below w2.heap.size w2 (w2.alloc (.cells #[.bool false, .slice A0 n0 c0] 72)) := (Below.refl _ _).alloc (Nat.le_refl _) _
  have HN1 := Lib.hid (HN0.out.below hba (Nat.le_refl _))
  have HI1 := Lib.hid (HI0.out.below hba (Nat.le_refl _))
  have HB2 := Lib.hid (HB1.out.trans (hba.mono HB1.out.size))
  have hgw : w.heap.size ≤ g := by have := HB1.out.size; omega
  have hgs : g < (w2.alloc (.cells #[.bool false, .slice A0 n0 c0] 72)).heap.size := by rw [World.size_alloc]; omega
  clear hba HN0 HI0 HB1
  go_wp2_with fail
  rw [hg] at HN1 HI1
  try rw [hg]
  generalize w2.alloc (.cells #[.bool false, .slice A0 n0 c0] 72) = V0 at *
  have HG := Lib.hid hg
  clear hg
  go_loopw [9] (fun i wr => ∃ (k : Nat) (A : Option Addr) (n c : Nat), k ≤ q ∧ i = .int .i64 (k : Int) ∧ Hid (SlotN wr g [.bool false, .slice A n c]) ∧ Hid (NumAt wr wr.heap.size A n c ((numD (u.take k) : Nat) : Int) ∧ ∀ ad, A = some ad → 0 < n → ad.block ≠ g) ∧ Hid (Ints wr g Ad q (dis u)) ∧ Hid (Below w.heap.size w wr) ∧ g < wr.heap.size) (fun i _ => q - (intOf i).toNat)
  case atStart => exact ⟨0, A0, n0, c0, by omega, rfl, HS0, Lib.hid ⟨HN1.out.more (by omega), fun ad e h0 => by have := HN1.out.lt ad e h0; omega⟩, HI1, HB2, hgs⟩
  case round =>
    clear HS0 HN1 HI1 HB2 hgs
    obtain ⟨k, A, n, c, hk, rfl, HS, HX, HI, HB, hgs⟩ := hrel
    obtain ⟨D, hD⟩ : ∃ D, numD (u.take k) = D := ⟨_, rfl⟩
    have hD20 : D < 10 ^ 20 := by rw [← hD]; exact small20 u k HALL.out (by rw [HLEN.out]; exact hq)
    rw [hD] at HX
    have HD20 := Lib.hid hD20
    have HDD := Lib.hid hD
    clear hD hD20
    have k0 := HS.out.c 0 _ rfl
    have k1 := HS.out.c 1 _ rfl
    have HC0 : Hid (∀ W, Below wr.heap.size wr W → W.cell? ⟨g, 0, none⟩ = some (.bool false)) := Lib.hid fun W hW => (HS.out.below hW hgs).c 0 _ rfl
    have HC1 : Hid (∀ W, Below wr.heap.size wr W → W.cell? ⟨g, 1, none⟩ = some (.slice A n c)) := Lib.hid fun W hW => (HS.out.below hW hgs).c 1 _ rfl
    by_cases hlt : k < q
    · have t0 : decide ((k : Int) < (q : Int)) = true := decide_eq_true (by omega)
      have t0n : decide (k < q) = true := decide_eq_true hlt
      obtain ⟨ad, x, rfl, hb, hx, hm, hc, _, _⟩ := HI.out.get hlt
      obtain ⟨ch, hch⟩ : ∃ ch, u[k]? = some ch := ⟨_, List.getElem?_eq_getElem (by rw [HLEN.out]; exact hlt)⟩
      have hxv : x = ((dv ch : Nat) : Int) := by
        unfold dis at hx
        rw [List.getElem?_map, hch] at hx
        injection hx with hx
        exact hx.symm
      have hd9 := dv_le (List.all_eq_true.1 HALL.out ch (List.mem_of_getElem? hch))
      have HNX : Hid (numD (u.take (k + 1)) = D * 10 + dv ch) := Lib.hid (by rw [take_snoc' _ _ _ hch, numD_snoc, HDD.out, Nat.mul_comm])
      generalize dv ch = d at *
      have O1 := Lib.hid (fun W => ofintN 10 10 rfl (by omega) W)
      have TM := Lib.hid (fun W A1 n1 c1 A2 n2 c2 => timesN D 10 (Nat.lt_of_lt_of_le HD20.out (by decide)) (by decide) W A1 n1 c1 A2 n2 c2)
      have O3 := Lib.hid (fun W => ofintN d x hxv (by omega) W)
      have SM := Lib.hid (fun W A1 n1 c1 A2 n2 c2 => sumN (D * 10) d (big40 HD20.out (by decide)) (Nat.lt_of_le_of_lt hd9 (by decide)) W A1 n1 c1 A2 n2 c2)
      have HC2 : Hid (∀ W, Below wr.heap.size wr W → W.cell? (ad.add k) = some (.int .i64 x)) := Lib.hid fun W hW => by
        rw [hW.cell (by rw [addr_block]; omega)]; exact hc
      have HNX2 : Hid (((D * 10 + d : Nat) : Int) = ((numD (u.take (k + 1)) : Nat) : Int)) := Lib.hid (by rw [HNX.out])
      clear hx hm hch hxv hd9 HNX
      generalize D * 10 + d = z2 at *
      generalize D * 10 = z1 at *
      go_wp2_with fail
      have hby : Below wr.heap.size wr wr.drew := (Below.refl _ wr).drew
      refine wp_endsIn 9 (fun w' => w'.cell? ⟨g, 0, none⟩ = some (.bool false) ∧ w'.cell? ⟨g, 1, none⟩ = some (.slice A n c) ∧ w'.cell? (ad.add k) = some (.int .i64 x)) (by kernel_rfl) ?_ (fun hHeld => ?_)
      · refine ⟨?_, ?_, ?_⟩ <;> first | with_reducible assumption | exact HC0.out _ hby | exact HC1.out _ hby | exact HC2.out _ hby
      refine EndsIn.take 0 (d := (some 30)) (v := ?_) rfl rfl (by kernel_rfl) (by kernel_rfl) (by kernel_rfl) (by kernel_rfl) (by kernel_rfl) (fun _ _ _ h => h) ?_ (by assumption) ?_
      rotate_left
      · intro ww hSw; (try dsimp only at hSw); first | (go_simp; done) | (go_simp; with_reducible rfl)
      simp only [Act.put, List.setIfInBounds_toArray, List.set_cons_zero, List.set_cons_succ]
      refine EndsIn.take 3 (d := (some 33)) (v := ?_) rfl rfl (by kernel_rfl) (by kernel_rfl) (by kernel_rfl) (by kernel_rfl) (by kernel_rfl) (fun _ _ _ h => h) ?_ (by assumption) ?_
      rotate_left
      · intro ww hSw; (try dsimp only at hSw); first | (go_simp; done) | (go_simp; with_reducible rfl)
      simp only [Act.put, List.setIfInBounds_toArray, List.set_cons_zero, List.set_cons_succ]
      refine EndsIn.take 4 (d := (some 34)) (v := ?_) rfl rfl (by kernel_rfl) (by kernel_rfl) (by kernel_rfl) (by kernel_rfl) (by kernel_rfl) (fun _ _ _ h => h) ?_ (by assumption) ?_
      rotate_left
      · intro ww hSw; (try dsimp only at hSw); first | (go_simp; done) | (go_simp; with_reducible rfl)
      simp only [Act.put, List.setIfInBounds_toArray, List.set_cons_zero, List.set_cons_succ]
      refine EndsIn.take 5 (d := (some 35)) (v := ?_) rfl rfl (by kernel_rfl) (by kernel_rfl) (by kernel_rfl) (by kernel_rfl) (by kernel_rfl) (fun _ _ _ h => h) ?_ (by assumption) ?_
      rotate_left
      · intro ww hSw; (try dsimp only at hSw); first | (go_simp; done) | (go_simp; with_reducible rfl)
      simp only [Act.put, List.setIfInBounds_toArray, List.set_cons_zero, List.set_cons_succ]
      refine EndsIn.take 6 (d := (some 36)) (v := ?_) rfl rfl (by kernel_rfl) (by kernel_rfl) (by kernel_rfl) (by kernel_rfl) (by kernel_rfl) (fun _ _ _ h => h) ?_ (by assumption) ?_
      rotate_left
      · intro ww hSw; (try dsimp only at hSw); first | (go_simp; done) | (go_simp; with_reducible rfl)
      simp only [Act.put, List.setIfInBounds_toArray, List.set_cons_zero, List.set_cons_succ]
      refine EndsIn.step 1 (o := _) (by kernel_rfl) rfl (fun K hK => ?_)
      go_simp
      go_at_call 47; refine (O1.out _).mono ?_; clear O1; rintro e w1 ⟨A1, n1, c1, rfl, hN1, hp1, hx1⟩; have hby : Below wr.heap.size wr w1 := hby.trans (hx1.mono hby.size); have hM0 := (HX.out.1.below hby (Nat.le_refl _)).more hby.size
      try go_simp
      refine hK.out _ _ ?_ (fun hHeld => ?_)
      · refine ⟨?_, ?_, ?_⟩ <;> first | with_reducible assumption | exact HC0.out _ hby | exact HC1.out _ hby | exact HC2.out _ hby
      clear hK K
      refine EndsIn.step 2 (o := _) (by kernel_rfl) rfl (fun K hK => ?_)
      go_simp
      go_at_call 49; refine (TM.out _ _ _ _ _ _ _ hM0 hN1).mono ?_; clear TM; rintro e w2 ⟨A2, n2, c2, rfl, hN2, hp2, hx2⟩; have hby : Below wr.heap.size wr w2 := hby.trans (hx2.mono hby.size)
      try go_simp
      refine hK.out _ _ ?_ (fun hHeld => ?_)
      · refine ⟨?_, ?_, ?_⟩ <;> first | with_reducible assumption | exact HC0.out _ hby | exact HC1.out _ hby | exact HC2.out _ hby
      clear hK K
      refine EndsIn.step 7 (o := _) (by kernel_rfl) rfl (fun K hK => ?_)
      go_simp
      go_at_call 47; refine (O3.out _).mono ?_; clear O3; rintro e w3 ⟨A3, n3, c3, rfl, hN3, hp3, hx3⟩; have hby : Below wr.heap.size wr w3 := hby.trans (hx3.mono hby.size); have hM2 := (hN2.below hx3 (Nat.le_refl _)).more hx3.size
      try go_simp
      refine hK.out _ _ ?_ (fun hHeld => ?_)
      · refine ⟨?_, ?_, ?_⟩ <;> first | with_reducible assumption | exact HC0.out _ hby | exact HC1.out _ hby | exact HC2.out _ hby
      clear hK K
      refine EndsIn.step 8 (o := _) (by kernel_rfl) rfl (fun K hK => ?_)
      go_simp
      go_at_call 48; refine (SM.out _ _ _ _ _ _ _ hM2 hN3).mono ?_; clear SM; rintro e w4 ⟨A4, n4, c4, rfl, hN4, hp4, hx4⟩; have hbz := hby; have hby : Below wr.heap.size wr w4 := hby.trans (hx4.mono hby.size); have y0 := (HS.out.below hby (by omega)).c 0 _ rfl; have y1 := (HS.out.below hby (by omega)).c 1 _ rfl; have y2 := (HS.out.below hby (by omega)).f 0; have y3 := (HS.out.below hby (by omega)).f 1
      try go_simp
      refine hK.out _ _ ?_ (fun hHeld => ?_)
      · refine ⟨?_, ?_, ?_⟩ <;> first | with_reducible assumption | exact HC0.out _ hby | exact HC1.out _ hby | exact HC2.out _ hby
      clear hK K
      refine EndsIn.last (o := _) (by kernel_rfl) (by kernel_rfl) rfl (fun K hK => ?_)
      go_simp
      skip
      refine hK.out _ _ ?_
      clear hK K
      have hz4 := hbz.size
      have hz5 := hby.size
      have HNE : Hid (∀ ad, A4 = some ad → 0 < n4 → ad.block ≠ g) := Lib.hid fun ad e h0 => by have := hp4 ad e h0; omega
      have HSW := Lib.hid ((HS.out.below hby hgs).set2 (.bool false) (.slice A4 n4 c4))
      have HXW := Lib.hid ((hN4.set ⟨g, 0, none⟩ (.bool false) HNE.out).set ⟨g, 1, none⟩ (.slice A4 n4 c4) HNE.out)
      have HIW := Lib.hid (ints_set (ints_set ((HI.out).below hby (by omega)) ⟨g, 0, none⟩ (.bool false) (fun ad' e h0 => by injection e with e; subst e; simp only; omega)) ⟨g, 1, none⟩ (.slice A4 n4 c4) (fun ad' e h0 => by injection e with e; subst e; simp only; omega))
      have HBW := Lib.hid (((HB.out.trans (hby.mono (by omega))).setCell (p := ⟨g, 0, none⟩) (by simp only; omega) (.bool false)).setCell (p := ⟨g, 1, none⟩) (by simp only; omega) (.slice A4 n4 c4))
      go_wp2_with fail
      go_roundw
      case rel =>
        refine ⟨k + 1, A4, n4, c4, by omega, by go_num, HSW, Lib.hid ⟨?_, HNE.out⟩, HIW, HBW, by simp; omega⟩
        rw [← HNX2.out]
        exact HXW.out.more (by simp)
      case measure => simp only [intOf]; omega
    · have t0 : decide ((k : Int) < (q : Int)) = false := decide_eq_false (by omega)
      have t0n : decide (k < q) = false := decide_eq_false hlt
      obtain rfl : q = k := by omega
      have HDU : Hid (numD u = D) := Lib.hid (by have := HDD.out; rwa [List.take_of_length_le (by rw [HLEN.out]; exact Nat.le_refl _)] at this)
      have O1 := Lib.hid (fun W => ofintN 256 256 rfl (by omega) W)
      have TM := Lib.hid (fun W A1 n1 c1 A2 n2 c2 => timesN D 256 (Nat.lt_of_lt_of_le HD20.out (by decide)) (by decide) W A1 n1 c1 A2 n2 c2)
      obtain ⟨X, hX⟩ : ∃ X, D * 256 = X := ⟨_, rfl⟩
      have FI : Hid (∀ z w', z = refZ b (decide (X % 10 ^ K ≠ 0)) (min (X / 10 ^ K) 2000000) → ¬ (z < -1048576 ∨ 1048576 < z) → Below w.heap.size w w' → Qp (.returned (.tuple #[.int .i64 z, .int .i64 0])) w') := Lib.hid fun z w' hz => FIN.out z D w' HDU.out (by rw [hX]; exact hz)
      have FI2 : Hid (∀ z w', z = refZ b (decide (X % 10 ^ K ≠ 0)) (min (X / 10 ^ K) 2000000) → (z < -1048576 ∨ 1048576 < z) → Below w.heap.size w w' → Qp (.returned (.tuple #[.int .i64 0, .int .i64 5])) w') := Lib.hid fun z w' hz => FIN2.out z D w' HDU.out (by rw [hX]; exact hz)
      have HXS : Hid (X < 10 ^ 40) := Lib.hid (by rw [← hX]; exact big40 HD20.out (by decide))
      rw [hX] at TM
      clear hX FIN FIN2
      go_wp2_with fail
      have hby : Below wr.heap.size wr wr.drew := (Below.refl _ wr).drew
      refine wp_endsIn 3 (fun w' => w'.cell? ⟨g, 0, none⟩ = some (.bool false) ∧ w'.cell? ⟨g, 1, none⟩ = some (.slice A n c)) (by kernel_rfl) ?_ (fun hHeld => ?_)
      · refine ⟨?_, ?_⟩ <;> first | with_reducible assumption | exact HC0.out _ hby | exact HC1.out _ hby
      refine EndsIn.take 0 (d := (some 39)) (v := ?_) rfl rfl (by kernel_rfl) (by kernel_rfl) (by kernel_rfl) (by kernel_rfl) (by kernel_rfl) (fun _ _ _ h => h) ?_ (by assumption) ?_
      rotate_left
      · intro ww hSw; (try dsimp only at hSw); first | (go_simp; done) | (go_simp; with_reducible rfl)
      simp only [Act.put, List.setIfInBounds_toArray, List.set_cons_zero, List.set_cons_succ]
      refine EndsIn.step 1 (o := _) (by kernel_rfl) rfl (fun K hK => ?_)
      go_simp
      go_at_call 47; refine (O1.out _).mono ?_; clear O1; rintro e w1 ⟨A1, n1, c1, rfl, hN1, hp1, hx1⟩; have hby : Below wr.heap.size wr w1 := hby.trans (hx1.mono hby.size); have hM0 := (HX.out.1.below hby (Nat.le_refl _)).more hby.size
      try go_simp
      refine hK.out _ _ ?_ (fun hHeld => ?_)
      · refine ⟨?_, ?_⟩ <;> first | with_reducible assumption | exact HC0.out _ hby | exact HC1.out _ hby
      clear hK K
      refine EndsIn.step 2 (o := _) (by kernel_rfl) rfl (fun K hK => ?_)
      go_simp
      go_at_call 49; refine (TM.out _ _ _ _ _ _ _ hM0 hN1).mono ?_; clear TM; rintro e w4 ⟨A4, n4, c4, rfl, hN4, hp4, hx4⟩; have hbz := hby; have hby : Below wr.heap.size wr w4 := hby.trans (hx4.mono hby.size); have y0 := (HS.out.below hby (by omega)).c 0 _ rfl; have y1 := (HS.out.below hby (by omega)).c 1 _ rfl; have y2 := (HS.out.below hby (by omega)).f 0; have y3 := (HS.out.below hby (by omega)).f 1
      try go_simp
      refine hK.out _ _ ?_ (fun hHeld => ?_)
      · refine ⟨?_, ?_⟩ <;> first | with_reducible assumption | exact HC0.out _ hby | exact HC1.out _ hby
      clear hK K
      refine EndsIn.last (o := _) (by kernel_rfl) (by kernel_rfl) rfl (fun K hK => ?_)
      go_simp
      skip
      refine hK.out _ _ ?_
      clear hK K
      have hz4 := hbz.size
      have hz5 := hby.size
      have HNE : Hid (∀ ad, A4 = some ad → 0 < n4 → ad.block ≠ g) := Lib.hid fun ad e h0 => by have := hp4 ad e h0; omega
      have HSW := Lib.hid ((HS.out.below hby hgs).set2 (.bool false) (.slice A4 n4 c4))
      have HXW := Lib.hid (((hN4.set ⟨g, 0, none⟩ (.bool false) HNE.out).set ⟨g, 1, none⟩ (.slice A4 n4 c4) HNE.out))
      have HBW := Lib.hid (((HB.out.trans (hby.mono (by omega))).setCell (p := ⟨g, 0, none⟩) (by simp only; omega) (.bool false)).setCell (p := ⟨g, 1, none⟩) (by simp only; omega) (.slice A4 n4 c4))
      have hn1000 : n4 ≤ 1000 := hN4.few (pow_big HXS.out)
      clear hN4 hp4 hx4 hby hbz hz4 hz5 HNE
      go_wp2_with fail
      generalize (w4.setCell ⟨g, 0, none⟩ (.bool false)).setCell ⟨g, 1, none⟩ (.slice A4 n4 c4) = W1 at HSW HXW HBW ⊢
      have k1' := HSW.out.c 1 _ rfl
      have HLX : Hid ((digs X).length = n4) := Lib.hid (by have := HXW.out.len; rwa [Int.natAbs_natCast] at this)
      have HDG : Hid (∀ i, i < n4 → ∃ (ad : Addr), A4 = some ad ∧ W1.cell? (ad.add i) = some (.int .i64 ((dig X i : Nat) : Int))) := Lib.hid (by
        intro i hi
        obtain ⟨ad, d, e, hb, hx, hm, hc, _, _⟩ := HXW.out.row.get hi
        rw [Int.natAbs_natCast, digs_get _ _ (by rw [HLX.out]; exact hi)] at hx
        injection hx with hx
        exact ⟨ad, e, by rw [hc, hx]⟩)
      clear HXW HSW HXS
      go_wp2_with fail
      go_loop [10, 11] (fun b i => ∃ (k : Nat) (bb : Bool), k ≤ n4 ∧ k ≤ K ∧ b = .bool bb ∧ i = .int .i64 (k : Int) ∧ Hid (bb = decide (X % 10 ^ k ≠ 0))) (fun _ i => n4 - (intOf i).toNat)
      case atStart => exact ⟨0, false, by omega, by omega, rfl, rfl, Lib.hid (by simp [Nat.mod_one])⟩
      case round =>
        obtain ⟨k, bb, hkn, hkK, rfl, rfl, hbb⟩ := hrel
        by_cases hc : k < K ∧ k < n4
        · obtain ⟨c1, c2⟩ := hc
          have s1 : decide ((k : Int) < (K : Int)) = true := decide_eq_true (by omega)
          have s1n : decide (k < K) = true := decide_eq_true c1
          have s2 : decide ((k : Int) < (n4 : Int)) = true := decide_eq_true (by omega)
          have s2n : decide (k < n4) = true := decide_eq_true c2
          obtain ⟨ad, rfl, hcell⟩ := HDG.out k c2
          have hL := left_step X k
          have hk0 : (0 : Int) ≤ (k : Int) := by omega
          have hk1 : (k : Int) < (n4 : Int) := by omega
          rw [← hbb.out] at hL
          cases bb with
          | true =>
            have HN : Hid (true = decide (X % 10 ^ (k + 1) ≠ 0)) := Lib.hid (by rw [← hL]; rfl)
            clear hL
            go_wp2_with fail
            go_round
            case rel => exact ⟨k + 1, true, by omega, by omega, rfl, by go_num, HN⟩
            case measure => simp only [intOf]; omega
          | false =>
            by_cases hd : dig X k = 0
            · have HN : Hid (false = decide (X % 10 ^ (k + 1) ≠ 0)) := Lib.hid (by rw [← hL, hd]; rfl)
              rw [hd] at hcell
              clear hL hd
              go_wp2_with fail
              go_round
              case rel => exact ⟨k + 1, false, by omega, by omega, rfl, by go_num, HN⟩
              case measure => simp only [intOf]; omega
            · have HN : Hid (true = decide (X % 10 ^ (k + 1) ≠ 0)) := Lib.hid (by rw [← hL, decide_eq_true hd]; rfl)
              have hy1 : (((dig X k : Nat) : Int) != 0) = true := by simp; omega
              clear hL hd
              generalize ((dig X k : Nat) : Int) = y at hcell hy1
              go_wp2_with fail
              go_round
              case rel => exact ⟨k + 1, true, by omega, by omega, rfl, by go_num, HN⟩
              case measure => simp only [intOf]; omega
        · have HL : Hid (bb = decide (X % 10 ^ K ≠ 0)) := Lib.hid (by
            rw [hbb.out]
            refine left_done X k K ?_
            by_cases h1 : k < K
            · exact .inr ⟨by rw [HLX.out]; omega, by omega⟩
            · exact .inl (by omega))
          clear hbb
          by_cases c1 : k < K
          · have s1 : decide ((k : Int) < (K : Int)) = true := decide_eq_true (by omega)
            have s1n : decide (k < K) = true := decide_eq_true c1
            have s2 : decide ((k : Int) < (n4 : Int)) = false := decide_eq_false (by omega)
            have s2n : decide (k < n4) = false := decide_eq_false (by omega)
            clear hc
            go_wp2_with fail
            go_loop [12, 13] (fun v i => ∃ (j m : Nat) (z : Int), j ≤ n4 ∧ z = (j : Int) - 1 ∧ i = .int .i64 z ∧ v = .int .i64 (m : Int) ∧ m ≤ 2000000 ∧ Hid (m = min (X / 10 ^ j) 2000000) ∧ Hid (K ≤ j ∨ j = n4)) (fun _ i => (intOf i + 1).toNat)
            case atStart => exact ⟨n4, 0, _, Nat.le_refl _, rfl, rfl, rfl, by omega, Lib.hid (by rw [div_pow_len (by rw [HLX.out]; exact Nat.le_refl _)]; rfl), Lib.hid (.inr rfl)⟩
            case round =>
              obtain ⟨j, m, z, hj, hz, rfl, rfl, hm, hmv, hjK⟩ := hrel
              by_cases hKj : K < j
              · obtain ⟨p, rfl⟩ : ∃ p, j = p + 1 := ⟨j - 1, by omega⟩
                have s3 : decide ((K : Int) ≤ z) = true := decide_eq_true (by omega)
                obtain ⟨ad, rfl, hcell⟩ := HDG.out p (by omega)
                have hd9 := dig_le X p
                have hst := cap_step X p
                rw [← hmv.out] at hst
                generalize dig X p = e at hcell hd9 hst
                have HST := Lib.hid hst
                have z1 : 0 ≤ z := by omega
                have z2 : z < (n4 : Int) := by omega
                have z3 : z.toNat = p := by omega
                have HZ : Hid (z - 1 = (p : Int) - 1) := Lib.hid (by omega)
                have HKP : Hid (K ≤ p) := Lib.hid (by omega)
                clear hz hst
                rcases Nat.lt_trichotomy (10 * m + e) 2000000 with h9 | h9 | h9
                · have m1 : 10 * (m : Int) + (e : Int) < 2000000 := by omega
                  have HST2 : Hid (10 * m + e = min (X / 10 ^ p) 2000000) := Lib.hid (by rw [← HST.out]; omega)
                  clear h9
                  go_wp2_with fail
                  go_round
                  case rel => exact ⟨p, 10 * m + e, z - 1, by omega, HZ.out, rfl, by go_num, by omega, HST2, Lib.hid (.inl HKP.out)⟩
                  case measure => simp only [intOf]; omega
                · have m1 : 10 * (m : Int) + (e : Int) ≤ 2000000 := by omega
                  have m2 : 2000000 ≤ 10 * (m : Int) + (e : Int) := by omega
                  have HST2 : Hid (2000000 = min (X / 10 ^ p) 2000000) := Lib.hid (by rw [← HST.out]; omega)
                  clear h9
                  go_wp2_with fail
                  go_round
                  case rel => exact ⟨p, 2000000, z - 1, by omega, HZ.out, rfl, by go_num, by omega, HST2, Lib.hid (.inl HKP.out)⟩
                  case measure => simp only [intOf]; omega
                · have m1 : 2000000 < 10 * (m : Int) + (e : Int) := by omega
                  have HST2 : Hid (2000000 = min (X / 10 ^ p) 2000000) := Lib.hid (by rw [← HST.out]; omega)
                  clear h9
                  go_wp2_with fail
                  go_round
                  case rel => exact ⟨p, 2000000, z - 1, by omega, HZ.out, rfl, by go_num, by omega, HST2, Lib.hid (.inl HKP.out)⟩
                  case measure => simp only [intOf]; omega
              · have s3 : decide ((K : Int) ≤ z) = false := decide_eq_false (by omega)
                have HM : Hid (m = min (X / 10 ^ K) 2000000) := Lib.hid (by
                  rw [hmv.out, cap_done X j K (by
                    rcases hjK.out with h | h
                    · exact .inl (by omega)
                    · exact .inr ⟨by rw [HLX.out, h]; exact Nat.le_refl _, by omega⟩)])
                have FO : Hid (∀ z w', z = refZ b bb m → ¬ (z < -1048576 ∨ 1048576 < z) → Below w.heap.size w w' → Qp (.returned (.tuple #[.int .i64 z, .int .i64 0])) w') := Lib.hid fun z w' hz => FI.out z w' (by rw [← HL.out, ← HM.out]; exact hz)
                have FO2 : Hid (∀ z w', z = refZ b bb m → (z < -1048576 ∨ 1048576 < z) → Below w.heap.size w w' → Qp (.returned (.tuple #[.int .i64 0, .int .i64 5])) w') := Lib.hid fun z w' hz => FI2.out z w' (by rw [← HL.out, ← HM.out]; exact hz)
                clear hz HM HL hmv hjK
                cases b with
                | false =>
                  by_cases hr : m ≤ 1048576
                  · have t1 : decide ((m : Int) < -1048576) = false := decide_eq_false (by omega)
                    have t2 : decide ((1048576 : Int) < (m : Int)) = false := decide_eq_false (by omega)
                    have t2n : decide (1048576 < m) = false := decide_eq_false (by omega)
                    have F := Lib.hid (FO.out (m : Int) W1 rfl (by omega) HBW.out)
                    clear hr
                    go_wp2_with fail
                    first | exact F.out | (go_ret2; exact F.out)
                  · have t1 : decide ((m : Int) < -1048576) = false := decide_eq_false (by omega)
                    have t2 : decide ((1048576 : Int) < (m : Int)) = true := decide_eq_true (by omega)
                    have t2n : decide (1048576 < m) = true := decide_eq_true (by omega)
                    have F := Lib.hid (FO2.out (m : Int) W1 rfl (by omega) HBW.out)
                    clear hr
                    go_wp2_with fail
                    first | exact F.out | (go_ret2; exact F.out)
                | true =>
                  cases bb with
                  | false =>
                    by_cases hr : m ≤ 1048576
                    · have t1 : decide (-(m : Int) < -1048576) = false := decide_eq_false (by omega)
                      have t1b : decide ((1048576 : Int) < (m : Int)) = false := decide_eq_false (by omega)
                      have t1n : decide (1048576 < m) = false := decide_eq_false (by omega)
                      have t2 : decide (1048576 < -(m : Int)) = false := decide_eq_false (by omega)
                      have F := Lib.hid (FO.out (-(m : Int)) W1 rfl (by omega) HBW.out)
                      clear hr
                      go_wp2_with fail
                      first | exact F.out | (go_ret2; exact F.out)
                    · have t1 : decide (-(m : Int) < -1048576) = true := decide_eq_true (by omega)
                      have t1b : decide ((1048576 : Int) < (m : Int)) = true := decide_eq_true (by omega)
                      have t1n : decide (1048576 < m) = true := decide_eq_true (by omega)
                      have F := Lib.hid (FO2.out (-(m : Int)) W1 rfl (by omega) HBW.out)
                      clear hr
                      go_wp2_with fail
                      first | exact F.out | (go_ret2; exact F.out)
                  | true =>
                    by_cases hr : m ≤ 1048575
                    · have t1 : decide (-(m : Int) - 1 < -1048576) = false := decide_eq_false (by omega)
                      have t1b : decide ((1048575 : Int) < (m : Int)) = false := decide_eq_false (by omega)
                      have t1n : decide (1048575 < m) = false := decide_eq_false (by omega)
                      have t2 : decide (1048576 < -(m : Int) - 1) = false := decide_eq_false (by omega)
                      have F := Lib.hid (FO.out (-(m : Int) - 1) W1 rfl (by omega) HBW.out)
                      clear hr
                      go_wp2_with fail
                      first | exact F.out | (go_ret2; exact F.out)
                    · have t1 : decide (-(m : Int) - 1 < -1048576) = true := decide_eq_true (by omega)
                      have t1b : decide ((1048575 : Int) < (m : Int)) = true := decide_eq_true (by omega)
                      have t1n : decide (1048575 < m) = true := decide_eq_true (by omega)
                      have F := Lib.hid (FO2.out (-(m : Int) - 1) W1 rfl (by omega) HBW.out)
                      clear hr
                      go_wp2_with fail
                      first | exact F.out | (go_ret2; exact F.out)
          · have s1 : decide ((k : Int) < (K : Int)) = false := decide_eq_false (by omega)
            have s1n : decide (k < K) = false := decide_eq_false c1
            clear hc
            go_wp2_with fail
            go_loop [12, 13] (fun v i => ∃ (j m : Nat) (z : Int), j ≤ n4 ∧ z = (j : Int) - 1 ∧ i = .int .i64 z ∧ v = .int .i64 (m : Int) ∧ m ≤ 2000000 ∧ Hid (m = min (X / 10 ^ j) 2000000) ∧ Hid (K ≤ j ∨ j = n4)) (fun _ i => (intOf i + 1).toNat)
            case atStart => exact ⟨n4, 0, _, Nat.le_refl _, rfl, rfl, rfl, by omega, Lib.hid (by rw [div_pow_len (by rw [HLX.out]; exact Nat.le_refl _)]; rfl), Lib.hid (.inr rfl)⟩
            case round =>
              obtain ⟨j, m, z, hj, hz, rfl, rfl, hm, hmv, hjK⟩ := hrel
              by_cases hKj : K < j
              · obtain ⟨p, rfl⟩ : ∃ p, j = p + 1 := ⟨j - 1, by omega⟩
                have s3 : decide ((K : Int) ≤ z) = true := decide_eq_true (by omega)
                obtain ⟨ad, rfl, hcell⟩ := HDG.out p (by omega)
                have hd9 := dig_le X p
                have hst := cap_step X p
                rw [← hmv.out] at hst
                generalize dig X p = e at hcell hd9 hst
                have HST := Lib.hid hst
                have z1 : 0 ≤ z := by omega
                have z2 : z < (n4 : Int) := by omega
                have z3 : z.toNat = p := by omega
                have HZ : Hid (z - 1 = (p : Int) - 1) := Lib.hid (by omega)
                have HKP : Hid (K ≤ p) := Lib.hid (by omega)
                clear hz hst
                rcases Nat.lt_trichotomy (10 * m + e) 2000000 with h9 | h9 | h9
                · have m1 : 10 * (m : Int) + (e : Int) < 2000000 := by omega
                  have HST2 : Hid (10 * m + e = min (X / 10 ^ p) 2000000) := Lib.hid (by rw [← HST.out]; omega)
                  clear h9
                  go_wp2_with fail
                  go_round
                  case rel => exact ⟨p, 10 * m + e, z - 1, by omega, HZ.out, rfl, by go_num, by omega, HST2, Lib.hid (.inl HKP.out)⟩
                  case measure => simp only [intOf]; omega
                · have m1 : 10 * (m : Int) + (e : Int) ≤ 2000000 := by omega
                  have m2 : 2000000 ≤ 10 * (m : Int) + (e : Int) := by omega
                  have HST2 : Hid (2000000 = min (X / 10 ^ p) 2000000) := Lib.hid (by rw [← HST.out]; omega)
                  clear h9
                  go_wp2_with fail
                  go_round
                  case rel => exact ⟨p, 2000000, z - 1, by omega, HZ.out, rfl, by go_num, by omega, HST2, Lib.hid (.inl HKP.out)⟩
                  case measure => simp only [intOf]; omega
                · have m1 : 2000000 < 10 * (m : Int) + (e : Int) := by omega
                  have HST2 : Hid (2000000 = min (X / 10 ^ p) 2000000) := Lib.hid (by rw [← HST.out]; omega)
                  clear h9
                  go_wp2_with fail
                  go_round
                  case rel => exact ⟨p, 2000000, z - 1, by omega, HZ.out, rfl, by go_num, by omega, HST2, Lib.hid (.inl HKP.out)⟩
                  case measure => simp only [intOf]; omega
              · have s3 : decide ((K : Int) ≤ z) = false := decide_eq_false (by omega)
                have HM : Hid (m = min (X / 10 ^ K) 2000000) := Lib.hid (by
                  rw [hmv.out, cap_done X j K (by
                    rcases hjK.out with h | h
                    · exact .inl (by omega)
                    · exact .inr ⟨by rw [HLX.out, h]; exact Nat.le_refl _, by omega⟩)])
                have FO : Hid (∀ z w', z = refZ b bb m → ¬ (z < -1048576 ∨ 1048576 < z) → Below w.heap.size w w' → Qp (.returned (.tuple #[.int .i64 z, .int .i64 0])) w') := Lib.hid fun z w' hz => FI.out z w' (by rw [← HL.out, ← HM.out]; exact hz)
                have FO2 : Hid (∀ z w', z = refZ b bb m → (z < -1048576 ∨ 1048576 < z) → Below w.heap.size w w' → Qp (.returned (.tuple #[.int .i64 0, .int .i64 5])) w') := Lib.hid fun z w' hz => FI2.out z w' (by rw [← HL.out, ← HM.out]; exact hz)
                clear hz HM HL hmv hjK
                cases b with
                | false =>
                  by_cases hr : m ≤ 1048576
                  · have t1 : decide ((m : Int) < -1048576) = false := decide_eq_false (by omega)
                    have t2 : decide ((1048576 : Int) < (m : Int)) = false := decide_eq_false (by omega)
                    have t2n : decide (1048576 < m) = false := decide_eq_false (by omega)
                    have F := Lib.hid (FO.out (m : Int) W1 rfl (by omega) HBW.out)
                    clear hr
                    go_wp2_with fail
                    first | exact F.out | (go_ret2; exact F.out)
                  · have t1 : decide ((m : Int) < -1048576) = false := decide_eq_false (by omega)
                    have t2 : decide ((1048576 : Int) < (m : Int)) = true := decide_eq_true (by omega)
                    have t2n : decide (1048576 < m) = true := decide_eq_true (by omega)
                    have F := Lib.hid (FO2.out (m : Int) W1 rfl (by omega) HBW.out)
                    clear hr
                    go_wp2_with fail
                    first | exact F.out | (go_ret2; exact F.out)
                | true =>
                  cases bb with
                  | false =>
                    by_cases hr : m ≤ 1048576
                    · have t1 : decide (-(m : Int) < -1048576) = false := decide_eq_false (by omega)
                      have t1b : decide ((1048576 : Int) < (m : Int)) = false := decide_eq_false (by omega)
                      have t1n : decide (1048576 < m) = false := decide_eq_false (by omega)
                      have t2 : decide (1048576 < -(m : Int)) = false := decide_eq_false (by omega)
                      have F := Lib.hid (FO.out (-(m : Int)) W1 rfl (by omega) HBW.out)
                      clear hr
                      go_wp2_with fail
                      first | exact F.out | (go_ret2; exact F.out)
                    · have t1 : decide (-(m : Int) < -1048576) = true := decide_eq_true (by omega)
                      have t1b : decide ((1048576 : Int) < (m : Int)) = true := decide_eq_true (by omega)
                      have t1n : decide (1048576 < m) = true := decide_eq_true (by omega)
                      have F := Lib.hid (FO2.out (-(m : Int)) W1 rfl (by omega) HBW.out)
                      clear hr
                      go_wp2_with fail
                      first | exact F.out | (go_ret2; exact F.out)
                  | true =>
                    by_cases hr : m ≤ 1048575
                    · have t1 : decide (-(m : Int) - 1 < -1048576) = false := decide_eq_false (by omega)
                      have t1b : decide ((1048575 : Int) < (m : Int)) = false := decide_eq_false (by omega)
                      have t1n : decide (1048575 < m) = false := decide_eq_false (by omega)
                      have t2 : decide (1048576 < -(m : Int) - 1) = false := decide_eq_false (by omega)
                      have F := Lib.hid (FO.out (-(m : Int) - 1) W1 rfl (by omega) HBW.out)
                      clear hr
                      go_wp2_with fail
                      first | exact F.out | (go_ret2; exact F.out)
                    · have t1 : decide (-(m : Int) - 1 < -1048576) = true := decide_eq_true (by omega)
                      have t1b : decide ((1048575 : Int) < (m : Int)) = true := decide_eq_true (by omega)
                      have t1n : decide (1048575 < m) = true := decide_eq_true (by omega)
                      have F := Lib.hid (FO2.out (-(m : Int) - 1) W1 rfl (by omega) HBW.out)
                      clear hr
                      go_wp2_with fail
                      first | exact F.out | (go_ret2; exact F.out)
theorem sparseref_any (l : List UInt8) (w : World) (hl : l.length ≤ 100000) : Calls Tryd.prog 20 #[.string ⟨l.toArray⟩] w (NE2 w (parseS l)) := by
  cases h : decOk l with
  | true =>
    refine sparseref_good l w ?_ h
    rw [decOk_eq] at h
    simp only [Bool.and_eq_true, decide_eq_true_eq] at h
    exact h.1.1
  | false =>
    rw [parse_bad_ref l h]
    exact sparseref_bad l w hl h
end Go.Proofs.YtkdffcoofijhkaaDoor
