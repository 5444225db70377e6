/-
  THE WALK OF limewashref17.Rise, where it is not refused.
-/
import Derived.Test.YtneoacbacflehaaShelfRefE
set_option linter.unusedVariables false
set_option linter.unusedSimpArgs false
namespace Go.Proofs.Ytneoacbacflehaa
open Go.RowKit

set_option maxHeartbeats 1600000 in
theorem rrise_yes (A : Option Addr) (n c : Nat) (sky : List Int) (x k : Nat) (y h : Int) (w : World) (hI : Ints w w.heap.size A n sky) (hok : riseOk sky ⟨x, y, k, h⟩ = true) :
    Calls Try.prog 13 #[.slice A n c, .agg #[.int .i64 x, .int .i64 y, .int .i64 k, .int .i64 h]] w (RiseRes sky ⟨x, y, k, h⟩ w) := by
  obtain ⟨i0, hi0, hz0, hz1, hz2⟩ := info_parts size_int'
  have hl := Lib.hid hI.length
  have hn := hI.len
  obtain ⟨s0, ⟨s1, s2⟩, c0, c1, c2, c3⟩ := riseOk_iff.1 hok
  have HY := Lib.hid (riseF_yes hok)
  simp only at s1 s2 c0 c1 c2 c3
  obtain ⟨hn256, hsk⟩ := skyOk_iff.1 s0
  rw [hl.out] at hn256 c1
  have HSK := Lib.hid hsk; clear hsk
  obtain ⟨hk1, hk2⟩ := texel_iff.1 s1
  obtain ⟨hh1, hh2⟩ := texel_iff.1 s2
  have HS := Lib.hid (fun W (hW : Below w.heap.size w W) => rsky_any _ A n c sky W (hI.below hW (Nat.le_refl _)))
  have W := Lib.hid (fun V => rwithin_any k V)
  have H := Lib.hid (fun V => rwithin_any h V)
  rw [s0] at HS; rw [s1] at W; rw [s2] at H
  clear s0 s1 s2 hok
  have d0 : decide ((x : Int) < 0) = false := decide_eq_false (by omega)
  have d1 : decide ((n : Int) - k < x) = false := decide_eq_false (by omega)
  have d2 : decide (y < 0) = false := decide_eq_false (by omega)
  have d3 : decide (256 - h < y) = false := decide_eq_false (by omega)
  go_enter Try.func13, Try.ntmps13
  go_wp2_with fail
  refine (HS.out _ ((Below.refl _ _).alloc (Nat.le_refl _) _)).mono ?_
  rintro e w1 ⟨rfl, rfl⟩
  go_wp2_with fail
  refine (W.out _).mono ?_
  rintro e w1 ⟨rfl, rfl⟩
  go_wp2_with fail
  refine (H.out _).mono ?_
  rintro e w1 ⟨rfl, rfl⟩
  go_wp2_with fail
  go_loopw [6, 7] (fun u i wr => ∃ (j : Nat) (out : List Int), j ≤ n ∧ i = .int .i64 j ∧ wr.ownsRow (w.heap.size + 1) 3 1 u j (cellsI out) ∧ Hid (out = (riseS sky ⟨x, y, k, h⟩).take j) ∧ Hid (RcAt wr w.heap.size ⟨x, y, k, h⟩) ∧ Below w.heap.size w wr ∧ w.heap.size + 1 ≤ wr.heap.size) (fun _ i _ => n - (intOf i).toNat)
  case atStart => exact ⟨0, [], by omega, rfl, World.ownsRow_nil _ _ _ _, Lib.hid (by simp), Lib.hid (RcAt.new w ⟨x, y, k, h⟩ 24), (Below.refl _ _).alloc (Nat.le_refl _) _, by simp⟩
  case round =>
    obtain ⟨j, out, hj, rfl, hown, hout, hrc, hbk, hzk⟩ := hrel
    by_cases hlt : j < n
    · have hI1 := hI.below hbk (Nat.le_refl _)
      obtain ⟨ad, v, rfl, hb, hv, hm, hc, hlo, hhi⟩ := hI1.get hlt
      have HV := Lib.hid hv; clear hv hm
      have t0 : decide ((j : Int) < (n : Int)) = true := decide_eq_true (by omega)
      have j0 : (0 : Int) ≤ (j : Int) := by omega
      have j1 : (j : Int) < (n : Int) := by omega
      have q0 : wr.cell? ⟨w.heap.size, 0, none⟩ = some (.int .i64 x) := hrc.out 0
      have q1 : wr.cell? ⟨w.heap.size, 1, none⟩ = some (.int .i64 y) := hrc.out 1
      have q2 : wr.cell? ⟨w.heap.size, 2, none⟩ = some (.int .i64 k) := hrc.out 2
      have q3 : wr.cell? ⟨w.heap.size, 3, none⟩ = some (.int .i64 h) := hrc.out 3
      have hbk4 : ∀ j, u6.ownBlock = some j → w.heap.size + 1 ≤ j := fun j hj => (hown.lt j hj).1
      by_cases hin : x ≤ j ∧ j < x + k
      · obtain ⟨a1, a2⟩ := hin
        have t1 : decide ((x : Int) ≤ (j : Int)) = true := decide_eq_true (by omega)
        have t1' : decide (x ≤ j) = true := decide_eq_true a1
        have t2 : decide ((j : Int) < (x : Int) + k) = true := decide_eq_true (by omega)
        go_wp2_with (at_builtin; refine wpList_append_lies _ rfl (.tmp 70) (.tmp 76) _ rfl (w.heap.size + 1) 3 i0 _ 1 8 Try.underlying22 hi0 hz0 hz1 hz2 rfl (by decide) _ j (cellsI out) rfl (hown.alloc _) ⟨wr.heap.size, 0, none⟩ 1 1 [.int .i64 _] rfl rfl (World.news_of_block (heap_alloc_new _ _)) (by simp [Value.oneCell']) (by decide) (by unfold maxLen; omega) (by omega) (by simp; omega) _ rfl ?_; intro g4 cap4 w4 hown4 hgr4 hat4 hlt4)
        go_roundw
        case rel =>
          refine ⟨j + 1, out ++ [y + h], by omega, by go_num, by simpa [cellsI] using hown4, Lib.hid ?_, Lib.hid ?_, ?_, by have := hgr4.size; simp at this; omega⟩
          · rw [hout.out]
            refine (take_snoc' _ _ _ ?_).symm
            have e := riseTo_get sky x (y + h) k j (by rw [hl.out]; exact hlt)
            rw [if_pos ⟨a1, a2⟩] at e
            simpa [riseS] using e
          · exact hrc.out.below (((Below.refl (w.heap.size + 1) wr).alloc hzk _).grown hgr4 (by simp; omega) (fun j hj => by have := hbk4 j hj; omega)) (Nat.lt_succ_self _)
          · exact (hbk.alloc (by omega) _).grown hgr4 (by simp; omega) (fun j hj => by have := hbk4 j hj; omega)
        case measure => simp only [intOf]; omega
      · by_cases a1 : x ≤ j
        · have a2 : ¬ j < x + k := fun hh => hin ⟨a1, hh⟩
          have t1 : decide ((x : Int) ≤ (j : Int)) = true := decide_eq_true (by omega)
          have t1' : decide (x ≤ j) = true := decide_eq_true a1
          have t2 : decide ((j : Int) < (x : Int) + k) = false := decide_eq_false (by omega)
          go_wp2_with (at_builtin; refine wpList_append_lies _ rfl (.tmp 78) (.tmp 83) _ rfl (w.heap.size + 1) 3 i0 _ 1 8 Try.underlying22 hi0 hz0 hz1 hz2 rfl (by decide) _ j (cellsI out) rfl (hown.alloc _) ⟨wr.heap.size, 0, none⟩ 1 1 [.int .i64 _] rfl rfl (World.news_of_block (heap_alloc_new _ _)) (by simp [Value.oneCell']) (by decide) (by unfold maxLen; omega) (by omega) (by simp; omega) _ rfl ?_; intro g4 cap4 w4 hown4 hgr4 hat4 hlt4)
          go_roundw
          case rel =>
            refine ⟨j + 1, out ++ [v], by omega, by go_num, by simpa [cellsI] using hown4, Lib.hid ?_, Lib.hid ?_, ?_, by have := hgr4.size; simp at this; omega⟩
            · rw [hout.out]
              refine (take_snoc' _ _ _ ?_).symm
              have e := riseTo_get sky x (y + h) k j (by rw [hl.out]; exact hlt)
              rw [if_neg hin, HV.out] at e
              simpa [riseS] using e
            · exact hrc.out.below (((Below.refl (w.heap.size + 1) wr).alloc hzk _).grown hgr4 (by simp; omega) (fun j hj => by have := hbk4 j hj; omega)) (Nat.lt_succ_self _)
            · exact (hbk.alloc (by omega) _).grown hgr4 (by simp; omega) (fun j hj => by have := hbk4 j hj; omega)
          case measure => simp only [intOf]; omega
        · have t1 : decide ((x : Int) ≤ (j : Int)) = false := decide_eq_false (by omega)
          have t1' : decide (x ≤ j) = false := decide_eq_false a1
          go_wp2_with (at_builtin; refine wpList_append_lies _ rfl (.tmp 78) (.tmp 83) _ rfl (w.heap.size + 1) 3 i0 _ 1 8 Try.underlying22 hi0 hz0 hz1 hz2 rfl (by decide) _ j (cellsI out) rfl (hown.alloc _) ⟨wr.heap.size, 0, none⟩ 1 1 [.int .i64 _] rfl rfl (World.news_of_block (heap_alloc_new _ _)) (by simp [Value.oneCell']) (by decide) (by unfold maxLen; omega) (by omega) (by simp; omega) _ rfl ?_; intro g4 cap4 w4 hown4 hgr4 hat4 hlt4)
          go_roundw
          case rel =>
            refine ⟨j + 1, out ++ [v], by omega, by go_num, by simpa [cellsI] using hown4, Lib.hid ?_, Lib.hid ?_, ?_, by have := hgr4.size; simp at this; omega⟩
            · rw [hout.out]
              refine (take_snoc' _ _ _ ?_).symm
              have e := riseTo_get sky x (y + h) k j (by rw [hl.out]; exact hlt)
              rw [if_neg hin, HV.out] at e
              simpa [riseS] using e
            · exact hrc.out.below (((Below.refl (w.heap.size + 1) wr).alloc hzk _).grown hgr4 (by simp; omega) (fun j hj => by have := hbk4 j hj; omega)) (Nat.lt_succ_self _)
            · exact (hbk.alloc (by omega) _).grown hgr4 (by simp; omega) (fun j hj => by have := hbk4 j hj; omega)
          case measure => simp only [intOf]; omega
    · have t0 : decide ((j : Int) < (n : Int)) = false := decide_eq_false (by omega)
      obtain rfl : j = n := by omega
      obtain ⟨A', c', rfl⟩ := own_shape hown
      go_wp2_with fail
      go_ret2
      unfold RiseRes
      rw [HY.out]
      have e := hout.out
      rw [List.take_of_length_le (by simp [riseS, riseTo_length, hl.out])] at e
      subst e
      refine ⟨A', c', ?_, ?_, hbk⟩
      · simp only [riseS, riseTo_length, hl.out]; rfl
      · simp only [riseS, riseTo_length, hl.out]; exact own_mono hown (by omega)

theorem rrise_any (A : Option Addr) (n c : Nat) (sky : List Int) (r : Rc) (w : World) (hI : Ints w w.heap.size A n sky) (hr : r.b) :
    Calls Try.prog 13 #[.slice A n c, .agg #[.int .i64 r.x, .int .i64 r.y, .int .i64 r.w, .int .i64 r.h]] w (RiseRes sky r w) := by
  cases hok : riseOk sky r with
  | false => exact rrise_no A n c sky r w hI hr hok
  | true =>
    obtain ⟨x, y, ww, h⟩ := r
    have h1 := riseOk_iff.1 hok
    simp only at h1
    obtain ⟨x, rfl⟩ : ∃ q : Nat, x = q := ⟨x.toNat, by omega⟩
    obtain ⟨k, rfl⟩ : ∃ q : Nat, ww = q := ⟨ww.toNat, by have := texel_iff.1 h1.2.1.1; omega⟩
    exact rrise_yes A n c sky x k y h w hI hok
end Go.Proofs.Ytneoacbacflehaa
