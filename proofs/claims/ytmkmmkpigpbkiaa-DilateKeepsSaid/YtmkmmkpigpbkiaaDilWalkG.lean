/-
  THE WALKS OF dilate.Near AND Spread.
-/
import Derived.Test.YtmkmmkpigpbkiaaDilWalkF
set_option linter.unusedVariables false
set_option linter.unusedSimpArgs false
namespace Go.Proofs.Ytmkmmkpigpbkiaa
open Go.RowKit

theorem pict_of {q : Nat} {v : List Int} (h : levelOk q v = true) : Pict q v ((v.length : Int) / q) := by
  obtain ⟨h1, h2, h3, h4, h5⟩ := levelOk_iff.1 h
  have h6 : v.length % q = 0 := by
    have e : ((v.length % q : Nat) : Int) = 0 := by rw [Int.natCast_emod]; exact h3
    omega
  have h7 : v.length / q ≤ 256 := by
    have h0 := Nat.div_add_mod v.length q
    rw [h6, Nat.add_zero] at h0
    have : q * (v.length / q) ≤ q * 256 := by omega
    exact Nat.le_of_mul_le_mul_left this (by omega)
  exact ⟨by omega, by omega, h6, by rw [Int.natCast_ediv], by rw [← Int.natCast_ediv]; omega, h5⟩

def NearFRes (ww pad : Int) (v : List Int) (x y : Int) (w : World) (e : Ending) (w' : World) : Prop := e = .returned (.tuple #[ptV (nearF ww pad v x y).1, .bool (nearF ww pad v x y).2]) ∧ Below w.heap.size w w'
theorem nearF_no {ww pad : Int} {v : List Int} {x y : Int} (h : nearOk ww pad v x y = false) : nearF ww pad v x y = (⟨0, 0⟩, false) := by simp [nearF, h]
theorem nearF_yes {ww pad : Int} {v : List Int} {x y : Int} (h : nearOk ww pad v x y = true) : nearF ww pad v x y = nearS ww.toNat v x y pad := by simp [nearF, h]

set_option maxHeartbeats 1600000 in
theorem nearF_any (A : Option Addr) (n c : Nat) (v : List Int) (ww pad x y : Int) (w : World) (hI : Ints w w.heap.size A n v) (hn : n ≤ 1000) (bw : i64b ww) (bx : i64b x) (by' : i64b y) :
    Calls Try.prog 9 #[.int .i64 ww, .int .i64 pad, .slice A n c, .int .i64 x, .int .i64 y] w (NearFRes ww pad v x y w) := by
  have hl := Lib.hid hI.length
  have hs0 := Lib.hid (SlotN.new w [.int .i64 0, .int .i64 0] #[.int .i64 0, .int .i64 0] 24 rfl)
  have hb0 : Below w.heap.size w (w.alloc (.cells #[.int .i64 0, .int .i64 0] 24)) := (Below.refl _ _).alloc (Nat.le_refl _) _
  have HO := Lib.hid (open_any A n c v ww pad (w.alloc (.cells #[.int .i64 0, .int .i64 0] 24)) ((hI.below hb0 (Nat.le_refl _)).more (by simp)) hn bw)
  unfold OpenRes at HO
  cases ho : openOk ww pad v with
  | false =>
    rw [ho] at HO
    have HNO : Hid (nearF ww pad v x y = (⟨0, 0⟩, false)) := Lib.hid (nearF_no (by unfold nearOk; unfold openOk at ho; rw [ho]; rfl))
    clear ho
    go_enter Try.func9, Try.ntmps9
    go_wp2_with fail
    refine HO.out.mono ?_
    rintro e w1 ⟨rfl, hb1⟩
    clear HO
    have hs1 := hs0.out.below hb1 (by simp)
    have hbw : Below w.heap.size w w1 := hb0.trans (hb1.mono (by simp))
    have hz1 : w.heap.size < w1.heap.size := by have := hb1.size; simp at this; omega
    simp only [if_false, Bool.false_eq_true]
    have a0 := hs1.c 0 _ rfl
    have a1 := hs1.c 1 _ rfl
    have a2 := hs1.f 0
    have a3 := hs1.f 1
    clear hs0 hs1 hb0 hb1
    go_wp2_with fail
    refine bodyPost_ret (v := .tuple #[.agg #[.int .i64 0, .int .i64 0], .bool false]) (by simp [results, Try.results9, go_sem, a0, a1, hz1]) rfl ⟨by rw [HNO.out]; rfl, ?_⟩
    exact ((hbw.setCell (p := ⟨w.heap.size, 0, none⟩) (Nat.le_refl _) _).setCell (p := ⟨w.heap.size, 1, none⟩) (Nat.le_refl _) _).alloc (by simp; omega) _
  | true =>
    rw [ho] at HO
    simp only [if_true] at HO
    have hok := ho
    unfold openOk at hok
    simp only [Bool.and_eq_true] at hok
    obtain ⟨hlo, hpo⟩ := hok
    obtain ⟨q, rfl⟩ : ∃ q : Nat, ww = q := ⟨ww.toNat, by have := (levelOk_iff.1 hlo).1; omega⟩
    have PI := pict_of hlo
    rw [hl.out] at PI
    obtain ⟨hp0, hp1⟩ := padOk_iff.1 hpo
    obtain ⟨M, hM⟩ : ∃ M, M = min x y := ⟨_, rfl⟩
    have eM : (if y < x then y else x) = M := by rw [hM]; split <;> omega
    obtain ⟨hh, hhe⟩ : ∃ hh, hh = (n : Int) / (q : Int) := ⟨_, rfl⟩
    rw [← hhe] at PI HO
    have HNOK : Hid (nearOk q pad v x y = (decide (0 ≤ x) && decide (x < q) && decide (0 ≤ y) && decide (y < hh))) := Lib.hid (by
      unfold nearOk
      rw [hlo, hpo, hl.out, ← hhe]; rfl)
    have HHE := Lib.hid hhe; clear hhe
    have hh0 : 0 ≤ hh := by rw [HHE.out]; exact Int.ediv_nonneg (by omega) (by omega)
    have hh2 := PI.h2
    clear hlo hpo ho
    by_cases c1 : M < 0
    · have d1 : decide (M < 0) = true := decide_eq_true c1
      have HNO : Hid (nearF q pad v x y = (⟨0, 0⟩, false)) := Lib.hid (nearF_no (by
        rw [HNOK.out]
        rcases (show ¬ 0 ≤ x ∨ ¬ 0 ≤ y by omega) with h | h
        · rw [decide_eq_false h]; rfl
        · rw [decide_eq_false h]; simp))
      have HM := Lib.hid hM; clear hM
      go_enter Try.func9, Try.ntmps9
      go_wp2_with fail
      refine HO.out.mono ?_
      rintro e w1 ⟨rfl, hb1⟩
      clear HO
      have hs1 := hs0.out.below hb1 (by simp)
      have hbw : Below w.heap.size w w1 := hb0.trans (hb1.mono (by simp))
      have hz1 : w.heap.size < w1.heap.size := by have := hb1.size; simp at this; omega
      simp only [picV]
      have a0 := hs1.c 0 _ rfl
      have a1 := hs1.c 1 _ rfl
      have a2 := hs1.f 0
      have a3 := hs1.f 1
      clear hs0 hs1 hb0 hb1
      go_wp2_with fail
      refine bodyPost_ret (v := .tuple #[.agg #[.int .i64 0, .int .i64 0], .bool false]) (by simp [results, Try.results9, go_sem, a0, a1, hz1]) rfl ⟨by rw [HNO.out]; rfl, ?_⟩
      exact ((hbw.setCell (p := ⟨w.heap.size, 0, none⟩) (Nat.le_refl _) _).setCell (p := ⟨w.heap.size, 1, none⟩) (Nat.le_refl _) _).alloc (by simp; omega) _
    have d1 : decide (M < 0) = false := decide_eq_false c1
    have x0 : 0 ≤ x := by omega
    have y0 : 0 ≤ y := by omega
    have HM := Lib.hid hM; clear hM
    by_cases c2 : (q : Int) ≤ x
    · have d2 : decide ((q : Int) ≤ x) = true := decide_eq_true c2
      have HNO : Hid (nearF q pad v x y = (⟨0, 0⟩, false)) := Lib.hid (nearF_no (by
        rw [HNOK.out, decide_eq_false (show ¬ x < q by omega)]; simp))
      go_enter Try.func9, Try.ntmps9
      go_wp2_with fail
      refine HO.out.mono ?_
      rintro e w1 ⟨rfl, hb1⟩
      clear HO
      have hs1 := hs0.out.below hb1 (by simp)
      have hbw : Below w.heap.size w w1 := hb0.trans (hb1.mono (by simp))
      have hz1 : w.heap.size < w1.heap.size := by have := hb1.size; simp at this; omega
      simp only [picV]
      have a0 := hs1.c 0 _ rfl
      have a1 := hs1.c 1 _ rfl
      have a2 := hs1.f 0
      have a3 := hs1.f 1
      clear hs0 hs1 hb0 hb1
      go_wp2_with fail
      refine bodyPost_ret (v := .tuple #[.agg #[.int .i64 0, .int .i64 0], .bool false]) (by simp [results, Try.results9, go_sem, a0, a1, hz1]) rfl ⟨by rw [HNO.out]; rfl, ?_⟩
      exact ((hbw.setCell (p := ⟨w.heap.size, 0, none⟩) (Nat.le_refl _) _).setCell (p := ⟨w.heap.size, 1, none⟩) (Nat.le_refl _) _).alloc (by simp; omega) _
    have d2 : decide ((q : Int) ≤ x) = false := decide_eq_false c2
    by_cases c3 : hh ≤ y
    · have d3 : decide (hh ≤ y) = true := decide_eq_true c3
      have HNO : Hid (nearF q pad v x y = (⟨0, 0⟩, false)) := Lib.hid (nearF_no (by
        rw [HNOK.out, decide_eq_false (show ¬ y < hh by omega)]; simp))
      go_enter Try.func9, Try.ntmps9
      go_wp2_with fail
      refine HO.out.mono ?_
      rintro e w1 ⟨rfl, hb1⟩
      clear HO
      have hs1 := hs0.out.below hb1 (by simp)
      have hbw : Below w.heap.size w w1 := hb0.trans (hb1.mono (by simp))
      have hz1 : w.heap.size < w1.heap.size := by have := hb1.size; simp at this; omega
      simp only [picV]
      have a0 := hs1.c 0 _ rfl
      have a1 := hs1.c 1 _ rfl
      have a2 := hs1.f 0
      have a3 := hs1.f 1
      clear hs0 hs1 hb0 hb1
      go_wp2_with fail
      refine bodyPost_ret (v := .tuple #[.agg #[.int .i64 0, .int .i64 0], .bool false]) (by simp [results, Try.results9, go_sem, a0, a1, hz1]) rfl ⟨by rw [HNO.out]; rfl, ?_⟩
      exact ((hbw.setCell (p := ⟨w.heap.size, 0, none⟩) (Nat.le_refl _) _).setCell (p := ⟨w.heap.size, 1, none⟩) (Nat.le_refl _) _).alloc (by simp; omega) _
    have d3 : decide (hh ≤ y) = false := decide_eq_false c3
    have HYES : Hid (nearF q pad v x y = nearS q v x y pad) := Lib.hid (by
      rw [nearF_yes (by rw [HNOK.out, decide_eq_true x0, decide_eq_true y0, decide_eq_true (show x < q by omega), decide_eq_true (show y < hh by omega)]; rfl), Int.toNat_natCast])
    go_enter Try.func9, Try.ntmps9
    go_wp2_with fail
    refine HO.out.mono ?_
    rintro e w1 ⟨rfl, hb1⟩
    clear HO
    have hs1 := hs0.out.below hb1 (by simp)
    have hbw : Below w.heap.size w w1 := hb0.trans (hb1.mono (by simp))
    have hz1 : w.heap.size < w1.heap.size := by have := hb1.size; simp at this; omega
    simp only [picV]
    have a0 := hs1.c 0 _ rfl
    have a1 := hs1.c 1 _ rfl
    have a2 := hs1.f 0
    have a3 := hs1.f 1
    clear hs0 hs1 hb0 hb1
    have HNW := Lib.hid (near_walk q n c hh x y pad A v (w1.alloc (.cells #[.int .i64 q, .int .i64 hh, .slice A n c] 41)) ((hI.below (hbw.alloc (by omega) _) (Nat.le_refl _)).more (by simp; omega)) PI x0 (by omega) y0 (by omega) hp0 hp1)
    unfold picV NearRes at HNW
    go_wp2_with fail
    refine HNW.out.mono ?_
    clear HNW
    rintro e w3 ⟨rfl, hb3⟩
    have hb13 : Below w1.heap.size w1 w3 := ((Below.refl _ _).alloc (Nat.le_refl _) _).trans (hb3.mono (by simp))
    have z0 := (hb13.cell (p := ⟨w.heap.size, 0, none⟩) hz1).trans a0
    have z1 := (hb13.cell (p := ⟨w.heap.size, 1, none⟩) hz1).trans a1
    have z2 := (hb13.frozen (p := ⟨w.heap.size, 0, none⟩) hz1).trans a2
    have z3 := (hb13.frozen (p := ⟨w.heap.size, 1, none⟩) hz1).trans a3
    have hbw3 : Below w.heap.size w w3 := hbw.trans (hb13.mono (by omega))
    clear hb13 hb3 a0 a1 a2 a3
    obtain ⟨⟨⟨tx', ty'⟩, tb⟩, ht⟩ : ∃ s, s = nearS q v x y pad := ⟨_, rfl⟩
    rw [← ht] at HYES ⊢
    clear ht
    dsimp only [ptV]
    go_wp2_with fail
    refine bodyPost_ret (v := .tuple #[.agg #[.int .i64 tx', .int .i64 ty'], .bool tb]) (by simp [results, Try.results9, go_sem, z0, z1]) rfl ⟨by rw [HYES.out]; rfl, ?_⟩
    exact (hbw3.setCell (p := ⟨w.heap.size, 0, none⟩) (Nat.le_refl _) _).setCell (p := ⟨w.heap.size, 1, none⟩) (Nat.le_refl _) _
end Go.Proofs.Ytmkmmkpigpbkiaa
