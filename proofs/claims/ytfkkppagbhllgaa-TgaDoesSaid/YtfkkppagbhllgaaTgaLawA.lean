/-
  THE LAWS TgaPieces AND TgaPacks.
-/
import Derived.Test.YtfkkppagbhllgaaTgaPic
import Derived.Test.YtfkkppagbhllgaaTxt
set_option linter.unusedVariables false
set_option linter.unusedSimpArgs false
set_option maxRecDepth 100000
namespace Go.Proofs.Ytfkkppagbhllgaa
open Go.RowKit

theorem len_many {z : Nat} {s : List UInt8} (h : s.length % z = 0) : s.length = manyT z s * z := many_mod h
theorem both_many {z : Nat} {s t : List UInt8} (h0 : 0 < z) (hs : s.length % z = 0) (ht : t.length % z = 0) : (s.length + t.length) / z = manyT z s + manyT z t := by
  have e1 := len_many hs
  have e2 := len_many ht
  generalize manyT z s = a at *
  generalize manyT z t = b at *
  rw [e1, e2, ← Nat.add_mul, Nat.mul_div_cancel _ h0]
theorem pieces_plain {z : Nat} {s t : List UInt8} (hz : z = 3 ∨ z = 4) (hs : s.length % z = 0) (ht : t.length % z = 0) (h : (s.length + t.length) / z ≤ 256) :
    unR (packT z s ++ packT z t) z (((s.length + t.length) / z : Nat) : Int) = (s ++ t, (((packT z s).length + (packT z t).length : Nat) : Int), 0) := by
  have h0 : 0 < z := by omega
  have h1 := unpack_pack h0 (len_many hs) (manyT z t) (packT z t)
  have h2 := unpack_pack h0 (len_many ht) 0 []
  rw [Nat.add_zero, List.append_nil, unpackT_zero] at h2
  rw [h2] at h1
  unfold unR unOk
  rw [decide_eq_true ⟨by omega, Int.natCast_nonneg _, Int.ofNat_le.2 h⟩, if_pos rfl, Int.toNat_natCast, Int.toNat_natCast, both_many h0 hs ht, h1]
  simp
theorem packs_plain {z : Nat} {s more : List UInt8} (hz : z = 3 ∨ z = 4) (hs : s.length % z = 0) (h : s.length / z ≤ 256) :
    unR (packT z s ++ more) z ((s.length / z : Nat) : Int) = (s, (((packT z s).length : Nat) : Int), 0) := by
  have h0 : 0 < z := by omega
  have h1 := unpack_pack h0 (len_many hs) 0 more
  rw [Nat.add_zero, unpackT_zero] at h1
  unfold unR unOk
  rw [decide_eq_true ⟨by omega, Int.natCast_nonneg _, Int.ofNat_le.2 h⟩, if_pos rfl, Int.toNat_natCast, Int.toNat_natCast]
  unfold manyT at h1
  rw [h1]
  simp
theorem packs_far {z : Int} {s : List UInt8} {k : Int} (h : 256 < k) : unR s z k = ([], 0, 1) := by
  unfold unR unOk
  rw [decide_eq_false (by omega), if_neg (by simp)]
theorem packR_no {s : List UInt8} {z : Int} (h : packOk s z = false) : packR s z = ([], 1) := by unfold packR; rw [h]; rfl
theorem packR_yes {s : List UInt8} {z : Nat} (hz : z = 3 ∨ z = 4) (h : s.length % z = 0) : packR s z = (packT z s, 0) := by
  unfold packR packOk
  rw [decide_eq_true (by omega), if_pos rfl, Int.toNat_natCast]
theorem packOk_nat {s : List UInt8} {z : Int} (h : packOk s z = true) : ∃ k : Nat, z = (k : Int) ∧ (k = 3 ∨ k = 4) ∧ s.length % k = 0 := by
  unfold packOk at h
  rw [decide_eq_true_iff] at h
  refine ⟨z.toNat, by omega, by omega, ?_⟩
  have e : ((z.toNat : Nat) : Int) = z := by omega
  have := h.2
  rw [← e] at this
  omega
theorem packR_code (s : List UInt8) (z : Int) : (packR s z).2 = 0 ∨ (packR s z).2 = 1 := by unfold packR; split <;> simp


set_option maxHeartbeats 1600000 in
theorem pieces_row (s t : List UInt8) (z : Int) (w : World) (bz : i64b z) (bs : s.length ≤ 9223372036854775807) (bt : t.length ≤ 9223372036854775807) :
    Calls Try.prog 8 #[.string ⟨s.toArray⟩, .string ⟨t.toArray⟩, .int .i64 z] w fun e w' => e = .returned (.bool true) ∧ Below w.heap.size w w' := by
  by_cases hs : 380 < s.length
  · have t1 : decide ((380 : Int) < (s.length : Int)) = true := decide_eq_true (by omega)
    clear bz bs bt hs
    go_enter Try.func8, Try.ntmps8
    go_wp2_with fail
    go_ret
    exact ⟨rfl, Below.refl _ _⟩
  have t1 : decide ((380 : Int) < (s.length : Int)) = false := decide_eq_false (by omega)
  by_cases ht : 380 < t.length
  · have t2 : decide ((380 : Int) < (t.length : Int)) = true := decide_eq_true (by omega)
    clear bz bs bt hs ht
    go_enter Try.func8, Try.ntmps8
    go_wp2_with fail
    go_ret
    exact ⟨rfl, Below.refl _ _⟩
  have t2 : decide ((380 : Int) < (t.length : Int)) = false := decide_eq_false (by omega)
  have K1 := Lib.hid (fun W => pack_any s z W (by omega) bz)
  have K2 := Lib.hid (fun W => pack_any t z W (by omega) bz)
  unfold SE at K1 K2
  cases p1 : packOk s z with
  | false =>
    rw [packR_no p1] at K1
    generalize packR t z = r2 at *
    obtain ⟨r2, x2⟩ := r2
    dsimp only at K1 K2
    clear p1 bz bs bt hs ht
    go_enter Try.func8, Try.ntmps8
    go_wp2_with fail
    refine (K1.out _).mono ?_
    rintro e w1 ⟨rfl, hb1⟩
    clear K1
    go_wp2_with fail
    refine (K2.out _).mono ?_
    rintro e w2 ⟨rfl, hb2⟩
    clear K2
    have HB := Lib.hid (hb1.trans (hb2.mono hb1.size))
    clear hb1 hb2
    go_wp2_with fail
    refine (pictured_any _).mono ?_
    rintro e wp ⟨rfl, hbp⟩
    have HBP := Lib.hid (HB.out.trans (hbp.mono HB.out.size))
    clear hbp
    go_wp2_with fail
    go_ret
    exact ⟨rfl, HBP.out⟩
  | true =>
    cases p2 : packOk t z with
    | false =>
      obtain ⟨k, rfl, hk, hm⟩ := packOk_nat p1
      rw [packR_yes hk hm] at K1
      rw [packR_no p2] at K2
      generalize packT k s = r1 at *
      dsimp only at K1 K2
      clear p1 p2 bz bs bt hs ht hm
      go_enter Try.func8, Try.ntmps8
      go_wp2_with fail
      refine (K1.out _).mono ?_
      rintro e w1 ⟨rfl, hb1⟩
      clear K1
      go_wp2_with fail
      refine (K2.out _).mono ?_
      rintro e w2 ⟨rfl, hb2⟩
      clear K2
      have HB := Lib.hid (hb1.trans (hb2.mono hb1.size))
      clear hb1 hb2
      go_wp2_with fail
      refine (pictured_any _).mono ?_
      rintro e wp ⟨rfl, hbp⟩
      have HBP := Lib.hid (HB.out.trans (hbp.mono HB.out.size))
      clear hbp
      go_wp2_with fail
      go_ret
      exact ⟨rfl, HBP.out⟩
    | true =>
      obtain ⟨k, rfl, hk, hm⟩ := packOk_nat p1
      obtain ⟨k', e, _, hm2⟩ := packOk_nat p2
      obtain rfl : k = k' := by omega
      rw [packR_yes hk hm] at K1
      rw [packR_yes hk hm2] at K2
      dsimp only at K1 K2
      have h256 : (s.length + t.length) / k ≤ 256 := by
        have : (s.length + t.length) / k ≤ (s.length + t.length) / 3 := Nat.div_le_div_left (by omega) (by omega)
        omega
      have l1 := pack_len (z := k) (s := s) (by omega) (len_many hm)
      have l2 := pack_len (z := k) (s := t) (by omega) (len_many hm2)
      have hm9 : manyT k s ≤ s.length ∧ manyT k t ≤ t.length := ⟨Nat.div_le_self _ _, Nat.div_le_self _ _⟩
      have K3 := Lib.hid (fun W => unp_any (packT k s ++ packT k t) k (((s.length + t.length) / k : Nat) : Int) W (by rw [List.length_append]; omega))
      rw [pieces_plain hk hm hm2 h256] at K3
      have b1 : (packT k s).length ≤ 1000 := by omega
      have b2 : (packT k t).length ≤ 1000 := by omega
      generalize packT k s = r1 at *
      generalize packT k t = r2 at *
      have t3 : decide ((k : Int) < 1) = false := decide_eq_false (by omega)
      have td : ((s.length : Int) + (t.length : Int)).tdiv (k : Int) = (((s.length + t.length) / k : Nat) : Int) := by rw [Int.tdiv_eq_ediv_of_nonneg (by omega)]; rfl
      have w1 : IntKind.i64.wrap ((s.length : Int) + (t.length : Int)) = (s.length : Int) + (t.length : Int) := by rw [IntKind.wrap_i64]; omega
      have w3 : IntKind.i64.wrap ((r1.length : Int) + (r2.length : Int)) = (r1.length : Int) + (r2.length : Int) := by rw [IntKind.wrap_i64]; omega
      have k0 : (k : Int) ≠ 0 := by omega
      have hcat := run_cat (P := Try.prog) r1 r2 (by omega)
      have hcat2 := run_cat (P := Try.prog) s t (by omega)
      generalize (s.length + t.length) / k = N at *
      have w2 : IntKind.i64.wrap ((N : Nat) : Int) = ((N : Nat) : Int) := by rw [IntKind.wrap_i64]; omega
      unfold UnpRes at K3
      dsimp only at K3
      have HBD := Lib.hid (⟨bz, bs, bt, hs, ht, hk, hm, hm2, h256, l1, l2, hm9, b1, b2⟩ : _ ∧ _ ∧ _ ∧ _ ∧ _ ∧ _ ∧ _ ∧ _ ∧ _ ∧ _ ∧ _ ∧ _ ∧ _ ∧ _)
      clear bz bs bt hs ht hk hm hm2 h256 l1 l2 hm9 b1 b2 p1 p2 e
      go_enter Try.func8, Try.ntmps8
      go_wp2_with fail
      refine (K1.out _).mono ?_
      rintro e w1 ⟨rfl, hb1⟩
      clear K1
      go_wp2_with fail
      refine (K2.out _).mono ?_
      rintro e w2 ⟨rfl, hb2⟩
      clear K2
      have HB := Lib.hid (hb1.trans (hb2.mono hb1.size))
      clear hb1 hb2
      go_wp2_with fail
      refine (K3.out _).mono ?_
      clear K3
      rintro e w3 ⟨rfl, hb3⟩
      have HB3 := Lib.hid (HB.out.trans (hb3.mono HB.out.size))
      clear hb3 HB
      unfold strV
      go_wp2_with fail
      refine (pictured_any _).mono ?_
      rintro e wp ⟨rfl, hbp⟩
      have HBP := Lib.hid (HB3.out.trans (hbp.mono HB3.out.size))
      clear hbp
      go_wp2_with fail
      go_ret
      exact ⟨rfl, HBP.out⟩


set_option maxHeartbeats 1600000 in
theorem packs_row (s : List UInt8) (z : Int) (more : List UInt8) (w : World) (bz : i64b z) (bs : s.length ≤ 9223372036854775807) (bt : more.length ≤ 9223372036854775807) :
    Calls Try.prog 7 #[.string ⟨s.toArray⟩, .int .i64 z, .string ⟨more.toArray⟩] w fun e w' => e = .returned (.bool true) ∧ Below w.heap.size w w' := by
  by_cases hs : 760 < s.length
  · have t1 : decide ((760 : Int) < (s.length : Int)) = true := decide_eq_true (by omega)
    clear bz bs bt hs
    go_enter Try.func7, Try.ntmps7
    go_wp2_with fail
    go_ret
    exact ⟨rfl, Below.refl _ _⟩
  have t1 : decide ((760 : Int) < (s.length : Int)) = false := decide_eq_false (by omega)
  by_cases ht : 300 < more.length
  · have t2 : decide ((300 : Int) < (more.length : Int)) = true := decide_eq_true (by omega)
    clear bz bs bt hs ht
    go_enter Try.func7, Try.ntmps7
    go_wp2_with fail
    go_ret
    exact ⟨rfl, Below.refl _ _⟩
  have t2 : decide ((300 : Int) < (more.length : Int)) = false := decide_eq_false (by omega)
  have K1 := Lib.hid (fun W => pack_any s z W (by omega) bz)
  unfold SE at K1
  cases p1 : packOk s z with
  | false =>
    rw [packR_no p1] at K1
    dsimp only at K1
    by_cases h3 : z = 3
    · subst h3
      have tm : (s.length : Int).tmod 3 = ((s.length % 3 : Nat) : Int) := by rw [Int.tmod_eq_emod_of_nonneg (by omega)]; rfl
      have h9 : s.length % 3 ≠ 0 ∧ s.length % 3 ≤ 4 := by
        unfold packOk at p1
        rw [decide_eq_false_iff_not] at p1
        have := Nat.mod_lt s.length (show 0 < 3 by omega)
        omega
      have t9 : (((s.length % 3 : Nat) : Int) != 0) = true := by rw [bne_iff_ne]; omega
      have w9 : IntKind.i64.wrap ((s.length % 3 : Nat) : Int) = ((s.length % 3 : Nat) : Int) := by rw [IntKind.wrap_i64]; omega
      generalize s.length % 3 = N at *
      clear p1 h9 bz bs bt hs ht
      go_enter Try.func7, Try.ntmps7
      go_wp2_with fail
      refine (K1.out _).mono ?_
      rintro e w1 ⟨rfl, hb1⟩
      clear K1
      have HB := Lib.hid hb1
      clear hb1
      go_wp2_with fail
      refine (pictured_any _).mono ?_
      rintro e wp ⟨rfl, hbp⟩
      have HBP := Lib.hid (HB.out.trans (hbp.mono HB.out.size))
      clear hbp
      go_wp2_with fail
      go_ret
      exact ⟨rfl, HBP.out⟩
    · by_cases h4 : z = 4
      · subst h4
        have tm : (s.length : Int).tmod 4 = ((s.length % 4 : Nat) : Int) := by rw [Int.tmod_eq_emod_of_nonneg (by omega)]; rfl
        have h9 : s.length % 4 ≠ 0 ∧ s.length % 4 ≤ 4 := by
          unfold packOk at p1
          rw [decide_eq_false_iff_not] at p1
          have := Nat.mod_lt s.length (show 0 < 4 by omega)
          omega
        have t9 : (((s.length % 4 : Nat) : Int) != 0) = true := by rw [bne_iff_ne]; omega
        have w9 : IntKind.i64.wrap ((s.length % 4 : Nat) : Int) = ((s.length % 4 : Nat) : Int) := by rw [IntKind.wrap_i64]; omega
        generalize s.length % 4 = N at *
        clear p1 h9 bz bs bt hs ht
        go_enter Try.func7, Try.ntmps7
        go_wp2_with fail
        refine (K1.out _).mono ?_
        rintro e w1 ⟨rfl, hb1⟩
        clear K1
        have HB := Lib.hid hb1
        clear hb1
        go_wp2_with fail
        refine (pictured_any _).mono ?_
        rintro e wp ⟨rfl, hbp⟩
        have HBP := Lib.hid (HB.out.trans (hbp.mono HB.out.size))
        clear hbp
        go_wp2_with fail
        go_ret
        exact ⟨rfl, HBP.out⟩
      · have t3 : (z != 3) = true := by rw [bne_iff_ne]; exact h3
        have t4 : (z != 4) = true := by rw [bne_iff_ne]; exact h4
        clear p1 bz bs bt hs ht h3 h4
        go_enter Try.func7, Try.ntmps7
        go_wp2_with fail
        refine (K1.out _).mono ?_
        rintro e w1 ⟨rfl, hb1⟩
        clear K1
        have HB := Lib.hid hb1
        clear hb1
        go_wp2_with fail
        refine (pictured_any _).mono ?_
        rintro e wp ⟨rfl, hbp⟩
        have HBP := Lib.hid (HB.out.trans (hbp.mono HB.out.size))
        clear hbp
        go_wp2_with fail
        go_ret
        exact ⟨rfl, HBP.out⟩
  | true =>
    obtain ⟨k, rfl, hk, hm⟩ := packOk_nat p1
    rw [packR_yes hk hm] at K1
    dsimp only at K1
    rcases hk with rfl | rfl
    · rw [show ((3 : Nat) : Int) = (3 : Int) from rfl] at *
      have hm2 := hm
      have KL := pack_len (z := 3) (s := s) (by omega) (len_many hm)
      have hm9 : manyT 3 s ≤ s.length := Nat.div_le_self _ _
      have td : (s.length : Int).tdiv 3 = ((s.length / 3 : Nat) : Int) := by rw [Int.tdiv_eq_ediv_of_nonneg (by omega)]; rfl
      have K3 := Lib.hid (fun W => unp_any (packT 3 s ++ more) 3 ((s.length / 3 : Nat) : Int) W (by rw [List.length_append]; omega))
      unfold manyT at KL
      have b1 : (packT 3 s).length ≤ 2000 := by omega
      have hM : s.length / 3 ≤ 300 := by omega
      by_cases h256 : 256 < s.length / 3
      · rw [packs_far (z := 3) (by omega)] at K3
        generalize packT 3 s = r1 at *
        generalize s.length / 3 = N at *
        have w2 : IntKind.i64.wrap ((N : Nat) : Int) = ((N : Nat) : Int) := by rw [IntKind.wrap_i64]; omega
        have t3 : decide ((256 : Int) < (N : Int)) = true := decide_eq_true (by omega)
        have hcat := run_cat (P := Try.prog) r1 more (by omega)
        unfold UnpRes at K3
        dsimp only at K3
        clear bz bs bt hs ht hm KL hm9 b1 p1 h256 hM hm2
        go_enter Try.func7, Try.ntmps7
        go_wp2_with fail
        refine (K1.out _).mono ?_
        rintro e w1 ⟨rfl, hb1⟩
        clear K1
        have HB := Lib.hid hb1
        clear hb1
        go_wp2_with fail
        refine (K3.out _).mono ?_
        clear K3
        rintro e w3 ⟨rfl, hb3⟩
        have HB3 := Lib.hid (HB.out.trans (hb3.mono HB.out.size))
        clear hb3 HB
        unfold strV
        go_wp2_with fail
        refine (pictured_any _).mono ?_
        rintro e wp ⟨rfl, hbp⟩
        have HBP := Lib.hid (HB3.out.trans (hbp.mono HB3.out.size))
        clear hbp
        go_wp2_with fail
        go_ret
        exact ⟨rfl, HBP.out⟩
      · have e3 := packs_plain (z := 3) (s := s) (more := more) (by omega) hm (by omega)
        have e9 : ((3 : Nat) : Int) = (3 : Int) := rfl
        rw [e9] at e3
        rw [e3] at K3
        generalize packT 3 s = r1 at *
        generalize s.length / 3 = N at *
        have w2 : IntKind.i64.wrap ((N : Nat) : Int) = ((N : Nat) : Int) := by rw [IntKind.wrap_i64]; omega
        have t3 : decide ((256 : Int) < (N : Int)) = false := decide_eq_false (by omega)
        have td2 : (N : Int).tdiv 128 = ((N / 128 : Nat) : Int) := by rw [Int.tdiv_eq_ediv_of_nonneg (by omega)]; rfl
        have hN : N / 128 ≤ 300 := by omega
        generalize N / 128 = Q at *
        have w4 : IntKind.i64.wrap ((Q : Nat) : Int) = ((Q : Nat) : Int) := by rw [IntKind.wrap_i64]; omega
        have w5 : IntKind.i64.wrap ((s.length : Int) + (Q : Int)) = (s.length : Int) + (Q : Int) := by rw [IntKind.wrap_i64]; omega
        have w6 : IntKind.i64.wrap ((s.length : Int) + (Q : Int) + 1) = (s.length : Int) + (Q : Int) + 1 := by rw [IntKind.wrap_i64]; omega
        have t6 : decide ((r1.length : Int) ≤ (s.length : Int) + (Q : Int) + 1) = true := decide_eq_true (by omega)
        have hcat := run_cat (P := Try.prog) r1 more (by omega)
        unfold UnpRes at K3
        dsimp only at K3
        clear bz bs bt hs ht hm KL hm9 b1 p1 h256 hM hm2 e3 e9 hN
        go_enter Try.func7, Try.ntmps7
        go_wp2_with fail
        refine (K1.out _).mono ?_
        rintro e w1 ⟨rfl, hb1⟩
        clear K1
        have HB := Lib.hid hb1
        clear hb1
        go_wp2_with fail
        refine (K3.out _).mono ?_
        clear K3
        rintro e w3 ⟨rfl, hb3⟩
        have HB3 := Lib.hid (HB.out.trans (hb3.mono HB.out.size))
        clear hb3 HB
        unfold strV
        go_wp2_with fail
        refine (pictured_any _).mono ?_
        rintro e wp ⟨rfl, hbp⟩
        have HBP := Lib.hid (HB3.out.trans (hbp.mono HB3.out.size))
        clear hbp
        go_wp2_with fail
        go_ret
        exact ⟨rfl, HBP.out⟩
    · rw [show ((4 : Nat) : Int) = (4 : Int) from rfl] at *
      have hm2 := hm
      have KL := pack_len (z := 4) (s := s) (by omega) (len_many hm)
      have hm9 : manyT 4 s ≤ s.length := Nat.div_le_self _ _
      have td : (s.length : Int).tdiv 4 = ((s.length / 4 : Nat) : Int) := by rw [Int.tdiv_eq_ediv_of_nonneg (by omega)]; rfl
      have K3 := Lib.hid (fun W => unp_any (packT 4 s ++ more) 4 ((s.length / 4 : Nat) : Int) W (by rw [List.length_append]; omega))
      unfold manyT at KL
      have b1 : (packT 4 s).length ≤ 2000 := by omega
      have hM : s.length / 4 ≤ 300 := by omega
      by_cases h256 : 256 < s.length / 4
      · rw [packs_far (z := 4) (by omega)] at K3
        generalize packT 4 s = r1 at *
        generalize s.length / 4 = N at *
        have w2 : IntKind.i64.wrap ((N : Nat) : Int) = ((N : Nat) : Int) := by rw [IntKind.wrap_i64]; omega
        have t3 : decide ((256 : Int) < (N : Int)) = true := decide_eq_true (by omega)
        have hcat := run_cat (P := Try.prog) r1 more (by omega)
        unfold UnpRes at K3
        dsimp only at K3
        clear bz bs bt hs ht hm KL hm9 b1 p1 h256 hM hm2
        go_enter Try.func7, Try.ntmps7
        go_wp2_with fail
        refine (K1.out _).mono ?_
        rintro e w1 ⟨rfl, hb1⟩
        clear K1
        have HB := Lib.hid hb1
        clear hb1
        go_wp2_with fail
        refine (K3.out _).mono ?_
        clear K3
        rintro e w3 ⟨rfl, hb3⟩
        have HB3 := Lib.hid (HB.out.trans (hb3.mono HB.out.size))
        clear hb3 HB
        unfold strV
        go_wp2_with fail
        refine (pictured_any _).mono ?_
        rintro e wp ⟨rfl, hbp⟩
        have HBP := Lib.hid (HB3.out.trans (hbp.mono HB3.out.size))
        clear hbp
        go_wp2_with fail
        go_ret
        exact ⟨rfl, HBP.out⟩
      · have e3 := packs_plain (z := 4) (s := s) (more := more) (by omega) hm (by omega)
        have e9 : ((4 : Nat) : Int) = (4 : Int) := rfl
        rw [e9] at e3
        rw [e3] at K3
        generalize packT 4 s = r1 at *
        generalize s.length / 4 = N at *
        have w2 : IntKind.i64.wrap ((N : Nat) : Int) = ((N : Nat) : Int) := by rw [IntKind.wrap_i64]; omega
        have t3 : decide ((256 : Int) < (N : Int)) = false := decide_eq_false (by omega)
        have td2 : (N : Int).tdiv 128 = ((N / 128 : Nat) : Int) := by rw [Int.tdiv_eq_ediv_of_nonneg (by omega)]; rfl
        have hN : N / 128 ≤ 300 := by omega
        generalize N / 128 = Q at *
        have w4 : IntKind.i64.wrap ((Q : Nat) : Int) = ((Q : Nat) : Int) := by rw [IntKind.wrap_i64]; omega
        have w5 : IntKind.i64.wrap ((s.length : Int) + (Q : Int)) = (s.length : Int) + (Q : Int) := by rw [IntKind.wrap_i64]; omega
        have w6 : IntKind.i64.wrap ((s.length : Int) + (Q : Int) + 1) = (s.length : Int) + (Q : Int) + 1 := by rw [IntKind.wrap_i64]; omega
        have t6 : decide ((r1.length : Int) ≤ (s.length : Int) + (Q : Int) + 1) = true := decide_eq_true (by omega)
        have hcat := run_cat (P := Try.prog) r1 more (by omega)
        unfold UnpRes at K3
        dsimp only at K3
        clear bz bs bt hs ht hm KL hm9 b1 p1 h256 hM hm2 e3 e9 hN
        go_enter Try.func7, Try.ntmps7
        go_wp2_with fail
        refine (K1.out _).mono ?_
        rintro e w1 ⟨rfl, hb1⟩
        clear K1
        have HB := Lib.hid hb1
        clear hb1
        go_wp2_with fail
        refine (K3.out _).mono ?_
        clear K3
        rintro e w3 ⟨rfl, hb3⟩
        have HB3 := Lib.hid (HB.out.trans (hb3.mono HB.out.size))
        clear hb3 HB
        unfold strV
        go_wp2_with fail
        refine (pictured_any _).mono ?_
        rintro e wp ⟨rfl, hbp⟩
        have HBP := Lib.hid (HB3.out.trans (hbp.mono HB3.out.size))
        clear hbp
        go_wp2_with fail
        go_ret
        exact ⟨rfl, HBP.out⟩

end Go.Proofs.Ytfkkppagbhllgaa
