/-
  THE WALK OF limewashlaw29.pictured.
-/
import Derived.Test.YtfkkppagbhllgaaTgaSame
import Derived.Test.YtfkkppagbhllgaaTgaWalkQ
set_option linter.unusedVariables false
set_option linter.unusedSimpArgs false
set_option maxRecDepth 100000
namespace Go.Proofs.Ytfkkppagbhllgaa
open Go.RowKit

theorem pic1 (W : World) : Calls Try.prog 16 #[.string ⟨#[97, 97, 97, 97, 97, 97, 97, 97, 97, 98, 98, 98, 99, 99, 99, 99, 99, 99]⟩, .int .i64 3] W fun e W' =>
    e = .returned (.tuple #[.string ⟨#[130, 97, 97, 97, 0, 98, 98, 98, 129, 99, 99, 99]⟩, .int .i64 0]) ∧ Below W.heap.size W W' := by
  have h := pack_any [97, 97, 97, 97, 97, 97, 97, 97, 97, 98, 98, 98, 99, 99, 99, 99, 99, 99] 3 W (by decide) (by unfold i64b; omega)
  have e : packR [97, 97, 97, 97, 97, 97, 97, 97, 97, 98, 98, 98, 99, 99, 99, 99, 99, 99] 3 = ([130, 97, 97, 97, 0, 98, 98, 98, 129, 99, 99, 99], 0) := by decide +kernel
  rw [e] at h
  exact h
theorem pic2 (W : World) : Calls Try.prog 16 #[.string ⟨#[97, 97, 97, 98, 98, 98, 99, 99, 99]⟩, .int .i64 3] W fun e W' =>
    e = .returned (.tuple #[.string ⟨#[2, 97, 97, 97, 98, 98, 98, 99, 99, 99]⟩, .int .i64 0]) ∧ Below W.heap.size W W' := by
  have h := pack_any [97, 97, 97, 98, 98, 98, 99, 99, 99] 3 W (by decide) (by unfold i64b; omega)
  have e : packR [97, 97, 97, 98, 98, 98, 99, 99, 99] 3 = ([2, 97, 97, 97, 98, 98, 98, 99, 99, 99], 0) := by decide +kernel
  rw [e] at h
  exact h
theorem pic3 (W : World) : Calls Try.prog 18 #[.string ⟨#[129, 120, 121, 122, 0, 97, 98, 99, 33]⟩, .int .i64 3, .int .i64 3] W fun e W' =>
    e = .returned (.tuple #[.string ⟨#[120, 121, 122, 120, 121, 122, 97, 98, 99]⟩, .int .i64 8, .int .i64 0]) ∧ Below W.heap.size W W' := by
  have h := unp_any [129, 120, 121, 122, 0, 97, 98, 99, 33] 3 3 W (by decide)
  have u : unpackT 3 3 [129, 120, 121, 122, 0, 97, 98, 99, 33] = some ([120, 121, 122, 120, 121, 122, 97, 98, 99], [33]) := by
    rw [unpackT_cons _ _ _ _ (by decide)]
    rw [if_neg (by decide), if_pos (by decide), if_neg (by decide)]
    rw [show 3 - ((129 : UInt8).toNat % 128 + 1) = 1 from rfl, show List.drop 3 ([120, 121, 122, 0, 97, 98, 99, 33] : List UInt8) = [0, 97, 98, 99, 33] from rfl]
    rw [unpackT_cons _ _ _ _ (by decide)]
    rw [if_neg (by decide), if_neg (by decide), if_neg (by decide)]
    rw [show 1 - ((0 : UInt8).toNat % 128 + 1) = 0 from rfl, unpackT_zero]
    rfl
  have e : unR [129, 120, 121, 122, 0, 97, 98, 99, 33] 3 3 = ([120, 121, 122, 120, 121, 122, 97, 98, 99], 8, 0) := by
    unfold unR
    rw [if_pos (by decide)]
    rw [show (3 : Int).toNat = 3 from rfl, u]
    rfl
  rw [e] at h
  exact h

/-- the picture of the document's rows -/
def picM : Im := ⟨1, 1, 4, [7, 7, 7, 255]⟩
theorem picM_ok : picM.ok := ⟨by decide, by decide, by decide, by decide, .inr rfl, rfl⟩
theorem pic4 (W : World) (B : Nat) (A : Option Addr) (c : Nat) (hI : Ints W W.heap.size A 1 [7]) : Calls Try.prog 14 #[.int .i64 1, .slice A 1 c, .int .i64 32] W fun e W' =>
    Below W.heap.size W W' ∧ ∃ A' c', e = .returned (.tuple #[imV 1 1 32 A' 4 c', .int .i64 0]) ∧ Byts W' W'.heap.size A' 4 [7, 7, 7, 255] ∧ 4 ≤ c' ∧ c' ≤ 9223372036854775807 := by
  refine (grey_any A 1 c [7] 1 32 W hI (by omega) (by unfold i64b; omega)).mono ?_
  rintro e W' ⟨hb, h⟩
  refine ⟨hb, ?_⟩
  have g : greyOk 1 [7] 32 = true := by decide
  rcases h with ⟨h, _⟩ | ⟨_, A', n', c', rfl, h1, h2, h3⟩
  · rw [g] at h; cases h
  · have e1 : greyT ((32 : Int) / 8).toNat [7] = [7, 7, 7, 255] := by decide
    rw [e1] at h1
    have hl := h1.length
    obtain rfl : n' = 4 := hl.symm
    exact ⟨A', c', rfl, h1, h2, h3⟩
theorem pic5 (W : World) (A : Option Addr) (c : Nat) (h1 : Byts W W.heap.size A 4 [7, 7, 7, 255]) (h2 : 4 ≤ c) (h3 : c ≤ 9223372036854775807) : Calls Try.prog 12 #[imV 1 1 32 A 4 c, .bool false, .bool true] W fun e W' =>
    e = .returned (.tuple #[.string ⟨(putT 1 1 4 [7, 7, 7, 255] false true).toArray⟩, .int .i64 0]) ∧ Below W.heap.size W W' := by
  have h := put_any 1 1 32 A 4 c [7, 7, 7, 255] false true W h1 h2 h3
  have e : putR 1 1 32 [7, 7, 7, 255] false true = (putT 1 1 4 [7, 7, 7, 255] false true, 0) := by unfold putR; rw [if_pos (by decide)]; rfl
  rw [e] at h
  exact h
theorem picP_len : (putT 1 1 4 [7, 7, 7, 255] false true).length = 48 := put_len picM_ok true
theorem pic6 (W : World) : Calls Try.prog 25 #[.string ⟨(putT 1 1 4 [7, 7, 7, 255] false true).toArray⟩] W fun e W' =>
    Below W.heap.size W W' ∧ ∃ A' c', e = .returned (.tuple #[imV 1 1 32 A' 4 c', .int .i64 0]) ∧ Byts W' W'.heap.size A' 4 [7, 7, 7, 255] := by
  refine (get_any _ W (by rw [picP_len]; decide)).mono ?_
  rintro e W' ⟨hb, h⟩
  refine ⟨hb, ?_⟩
  have g : getT (putT 1 1 4 [7, 7, 7, 255] false true) = some picM := get_put picM_ok false true
  rw [g] at h
  rcases h with ⟨h, _⟩ | ⟨m, A', n', c', hm, rfl, h1, h2, h3⟩
  · cases h
  · cases hm
    have hl := h1.length
    obtain rfl : n' = 4 := hl.symm
    exact ⟨A', c', rfl, h1⟩
theorem pic7 (W : World) : Calls Try.prog 25 #[.string ⟨#[]⟩] W fun e W' =>
    Below W.heap.size W W' ∧ e = .returned (.tuple #[zimV, .int .i64 6]) := by
  refine (get_any [] W (by decide)).mono ?_
  rintro e W' ⟨hb, h⟩
  refine ⟨hb, ?_⟩
  have g : getT [] = none := by unfold getT; rfl
  rw [g] at h
  rcases h with ⟨_, h⟩ | ⟨m, A', n', c', hm, _⟩
  · exact h
  · cases hm

set_option maxHeartbeats 1600000 in
theorem pictured_any (w : World) : Calls Try.prog 20 #[] w fun e w' => e = .returned (.bool true) ∧ Below w.heap.size w w' := by
  have K1 := Lib.hid pic1
  have K2 := Lib.hid pic2
  have K3 := Lib.hid pic3
  have K7 := Lib.hid pic7
  go_enter Try.func20, Try.ntmps20
  go_wp2_with fail
  refine (K1.out _).mono ?_
  rintro e w1 ⟨rfl, hb1⟩
  clear K1
  go_wp2_with fail
  refine (K2.out _).mono ?_
  rintro e w2 ⟨rfl, hb2⟩
  clear K2
  have hB2 := hb1.trans (hb2.mono hb1.size)
  clear hb1 hb2
  go_wp2_with fail
  refine (K3.out _).mono ?_
  rintro e w3 ⟨rfl, hb3⟩
  clear K3
  have HB3 := Lib.hid (hB2.trans (hb3.mono hB2.size))
  clear hB2 hb3
  go_wp2_with fail
  have hb4 : Below w.heap.size w (w3.alloc (.cells #[.int .i64 7] 3)) := HB3.out.alloc HB3.out.size _
  have hI := Ints.laid [7] #[.int .i64 7] rfl 3 (by unfold I64; decide) (by decide) w3 (w3.alloc (.cells #[.int .i64 7] 3)).heap.size (by simp)
  have K4 := Lib.hid (pic4 (w3.alloc (.cells #[.int .i64 7] 3)) 0 _ 1 hI)
  have HB4 := Lib.hid hb4
  clear hb4 hI HB3
  generalize (w3.alloc (.cells #[.int .i64 7] 3)) = W3 at *
  refine K4.out.mono ?_
  rintro e w4 ⟨hb, A, c, rfl, hBy, hc1, hc2⟩
  have HB5 := Lib.hid (HB4.out.trans (hb.mono HB4.out.size))
  have HBY := Lib.hid hBy
  clear K4 hb HB4 hBy
  unfold imV
  have hbb : Below w4.heap.size w4 (w4.alloc (.cells #[.int .i64 1, .int .i64 1, .int .i64 32, .slice A 4 c] 24)) := (Below.refl _ _).alloc (Nat.le_refl _) _
  have HM := Lib.hid (SlotN.new w4 [.int .i64 1, .int .i64 1, .int .i64 32, .slice A 4 c] #[.int .i64 1, .int .i64 1, .int .i64 32, .slice A 4 c] 24 rfl)
  have HBY6 := Lib.hid ((HBY.out.below hbb (Nat.le_refl _)).more hbb.size)
  have HB6 := Lib.hid (HB5.out.trans (hbb.mono HB5.out.size))
  have K5 := Lib.hid (pic5 _ A c HBY6.out hc1 hc2)
  have hz6 : w4.heap.size < (w4.alloc (.cells #[.int .i64 1, .int .i64 1, .int .i64 32, .slice A 4 c] 24)).heap.size := by simp
  clear HBY hbb HB5
  unfold imV at K5
  go_wp2_with fail
  generalize (w4.alloc (.cells #[.int .i64 1, .int .i64 1, .int .i64 32, .slice A 4 c] 24)) = W6 at *
  refine K5.out.mono ?_
  rintro e w7 ⟨rfl, hb⟩
  have HM7 := Lib.hid (HM.out.below hb hz6)
  have HBY7 := Lib.hid ((HBY6.out.below hb (Nat.le_refl _)).more hb.size)
  have HB7 := Lib.hid (HB6.out.trans (hb.mono HB6.out.size))
  have hz7 : w4.heap.size < w7.heap.size := Nat.lt_of_lt_of_le hz6 hb.size
  clear HM HBY6 HB6 hz6 hb K5
  have K6 := Lib.hid (pic6 w7)
  have hP := picP_len
  generalize putT 1 1 4 [7, 7, 7, 255] false true = P at *
  have HP := Lib.hid hP; clear hP
  go_wp2_with fail
  refine K6.out.mono ?_
  rintro e w8 ⟨hb, A2, c2, rfl, hBy2⟩
  have HM8 := Lib.hid (HM7.out.below hb hz7)
  have HBY8 := Lib.hid ((HBY7.out.below hb (Nat.le_refl _)).more hb.size)
  have HB8 := Lib.hid (HB7.out.trans (hb.mono HB7.out.size))
  have hz8 : w4.heap.size < w8.heap.size := Nat.lt_of_lt_of_le hz7 hb.size
  have HBZ := Lib.hid hBy2
  clear HM7 HBY7 HB7 hz7 hb K6 hBy2
  unfold imV
  have hbb : Below w8.heap.size w8 (w8.alloc (.cells #[.int .i64 1, .int .i64 1, .int .i64 32, .slice A2 4 c2] 24)) := (Below.refl _ _).alloc (Nat.le_refl _) _
  have HN9 := Lib.hid (SlotN.new w8 [.int .i64 1, .int .i64 1, .int .i64 32, .slice A2 4 c2] #[.int .i64 1, .int .i64 1, .int .i64 32, .slice A2 4 c2] 24 rfl)
  have HM9 := Lib.hid (HM8.out.below hbb hz8)
  have HBY9 := Lib.hid ((HBY8.out.below hbb (Nat.le_refl _)).more hbb.size)
  have HBZ9 := Lib.hid ((HBZ.out.below hbb (Nat.le_refl _)).more hbb.size)
  have HB9 := Lib.hid (HB8.out.trans (hbb.mono HB8.out.size))
  have hz9 : w8.heap.size < (w8.alloc (.cells #[.int .i64 1, .int .i64 1, .int .i64 32, .slice A2 4 c2] 24)).heap.size := by simp
  clear HM8 HBY8 HB8 HBZ hbb
  go_wp2_with fail
  generalize (w8.alloc (.cells #[.int .i64 1, .int .i64 1, .int .i64 32, .slice A2 4 c2] 24)) = W9 at *
  refine (K7.out _).mono ?_
  rintro e w10 ⟨hb, rfl⟩
  have HMa := Lib.hid (HM9.out.below hb (Nat.lt_trans hz8 hz9))
  have HNa := Lib.hid (HN9.out.below hb hz9)
  have HBYa := Lib.hid ((HBY9.out.below hb (Nat.le_refl _)).more hb.size)
  have HBZa := Lib.hid ((HBZ9.out.below hb (Nat.le_refl _)).more hb.size)
  have HBa := Lib.hid (HB9.out.trans (hb.mono HB9.out.size))
  have hza : w8.heap.size < w10.heap.size := Nat.lt_of_lt_of_le hz9 hb.size
  clear HM9 HN9 HBY9 HBZ9 HB9 hz9 hb K7
  unfold zimV
  have hbb : Below w10.heap.size w10 (w10.alloc (.cells zimC 24)) := (Below.refl _ _).alloc (Nat.le_refl _) _
  have HMb := Lib.hid (HMa.out.below hbb (Nat.lt_trans hz8 hza))
  have HNb := Lib.hid (HNa.out.below hbb hza)
  have HBYb := Lib.hid ((HBYa.out.below hbb (Nat.le_refl _)).more hbb.size)
  have HBZb := Lib.hid ((HBZa.out.below hbb (Nat.le_refl _)).more hbb.size)
  have HBb := Lib.hid (HBa.out.trans (hbb.mono HBa.out.size))
  have hzb : w8.heap.size < (w10.alloc (.cells zimC 24)).heap.size := Nat.lt_of_lt_of_le hza hbb.size
  clear HMa HNa HBYa HBZa HBa hza hbb
  unfold zimC at *
  have m0 := HMb.out.c 0 _ rfl
  have m1 := HMb.out.c 1 _ rfl
  have m2 := HMb.out.c 2 _ rfl
  have m3 := HMb.out.c 3 _ rfl
  have n0 := HNb.out.c 0 _ rfl
  have n1 := HNb.out.c 1 _ rfl
  have n2 := HNb.out.c 2 _ rfl
  have n3 := HNb.out.c 3 _ rfl
  have KS := Lib.hid (same_im _ 1 1 32 A 4 c _ 1 1 32 A2 4 c2 _ _ HBYb.out HBZb.out (Nat.le_refl _))
  have hP48 : (((P.length : Nat) : Int) == 48) = true := by rw [HP.out]; rfl
  unfold imV at KS
  go_wp2_with fail
  generalize (w10.alloc (.cells #[.int .i64 0, .int .i64 0, .int .i64 0, .slice none 0 0] 24)) = W11 at *
  refine KS.out.mono ?_
  rintro e w12 ⟨rfl, hb⟩
  have HMc := Lib.hid (HMb.out.below hb (Nat.lt_trans hz8 hzb))
  have HBc := Lib.hid (HBb.out.trans (hb.mono HBb.out.size))
  clear m0 m1 m2 m3 n0 n1 n2 n3 HMb HNb HBYb HBZb HBb hzb hb KS hP48 HP
  have m0 := HMc.out.c 0 _ rfl
  have m1 := HMc.out.c 1 _ rfl
  have m2 := HMc.out.c 2 _ rfl
  have m3 := HMc.out.c 3 _ rfl
  have KI := Lib.hid (is_any 1 1 32 A 4 c w12 (by decide))
  rw [show isT 1 1 32 4 = true from rfl] at KI
  unfold imV at KI
  go_wp2_with fail
  refine KI.out.mono ?_
  rintro e w13 ⟨rfl, hb⟩
  have HBd := Lib.hid (HBc.out.trans (hb.mono HBc.out.size))
  clear m0 m1 m2 m3 hb KI HMc HBc
  go_wp2_with fail
  go_ret
  exact ⟨rfl, HBd.out⟩
end Go.Proofs.Ytfkkppagbhllgaa
