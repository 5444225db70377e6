/-
  THE WALK OF limewashlaw17.shelved: the document's rows.
-/
import Derived.Test.YtneoacbacflehaaShelfWalkC
import Derived.Test.YtneoacbacflehaaShelfWalkE
import Derived.Test.YtneoacbacflehaaSameWalk
set_option linter.unusedVariables false
set_option linter.unusedSimpArgs false
namespace Go.Proofs.Ytneoacbacflehaa
open Go.RowKit

def rowsSizes : List Pt := [⟨3, 2⟩, ⟨2, 3⟩, ⟨2, 1⟩, ⟨4, 2⟩]
def rowsRects : List Rc := [⟨0, 0, 3, 2⟩, ⟨3, 0, 2, 3⟩, ⟨0, 2, 2, 1⟩, ⟨0, 3, 4, 2⟩]
theorem rows_pack : packS 5 6 rowsSizes = (rowsRects, 0) := by decide +kernel
theorem rows_full : packS 5 4 rowsSizes = ([], 9) := by decide +kernel
theorem rows_place : placeS [2, 2, 2, 3, 3] 2 1 6 = (0, 2, true) := by decide +kernel
theorem rows_rise : riseF [0, 0] ⟨1, 2, 1, 3⟩ = ([0, 5], 0) := by decide +kernel
theorem rows_arg : packS 0 1 [] = ([], 1) := by decide +kernel
theorem rows_is : isS 5 6 rowsRects = true := by decide +kernel
theorem rows_apart : apartS ⟨0, 0, 3, 2⟩ ⟨3, 0, 2, 3⟩ = true := by decide +kernel
theorem rows_b : ∀ p ∈ rowsSizes, p.b := by unfold Pt.b i64b; decide
theorem rows_rb : ∀ r ∈ rowsRects, r.b := by unfold Rc.b i64b; decide

theorem pack_as (A : Option Addr) (n c : Nat) (ps : List Pt) (ww h : Int) (w : World) (hP : Pts w w.heap.size A n ps) (hn : n ≤ 1000) (bw : i64b ww) (bh : i64b h) {l : List Rc} {k : Int} (hp : packS ww h ps = (l, k)) :
    Calls Try.prog 14 #[.int .i64 ww, .int .i64 h, .slice A n c] w (ListRes w 24 4 l.length (cellsR l) k) := by
  have := pack_any A n c ps ww h w hP hn bw bh
  unfold PackRes at this
  rwa [hp] at this

attribute [local go_sem ↓] Go.wp_at_zero Go.wp_at_succ
set_option maxHeartbeats 6400000 in
theorem shelved_any (w : World) : Calls Try.prog 18 #[] w fun e w' => e = .returned (.bool true) ∧ Below w.heap.size w w' := by
  go_enter Try.func18, Try.ntmps18
  go_wp2_with fail
  refine (pack_as _ _ _ rowsSizes 5 6 _ (Pts.laid rowsSizes _ rfl _ rows_b (by decide) w _ (by simp)) (by decide) ⟨by omega, by omega⟩ ⟨by omega, by omega⟩ rows_pack).mono ?_
  intro e w1 h1
  obtain ⟨A1, c1, rfl, hown1, hb1⟩ := h1
  have hb1' : Below w.heap.size w w1 := ((Below.refl _ _).alloc (Nat.le_refl _) _).trans (hb1.mono (by simp))
  have hP1 := (Pts.laid rowsSizes (cellsP rowsSizes).toArray rfl 45 rows_b (by decide) w (w.heap.size + 1) (by simp)).below hb1 (by simp)
  have hz1 : w.heap.size + 1 ≤ w1.heap.size := by have := hb1.size; simpa using this
  clear hb1
  simp only [show rowsRects.length = 4 from rfl] at *
  go_wp2_with fail
  refine (pack_as _ _ _ rowsSizes 5 4 _ (hP1.more hz1) (by decide) ⟨by omega, by omega⟩ ⟨by omega, by omega⟩ rows_full).mono ?_
  intro e w2 h2
  obtain ⟨A2, c2, rfl, hown2, hb2⟩ := h2
  have hb2' : Below w.heap.size w w2 := hb1'.trans (hb2.mono hb1'.size)
  have hR1 := (Rects.of_own hown1 rows_rb (by omega)).below hb2 (Nat.le_refl _)
  clear hown2 hP1
  simp only [List.length_nil]
  go_wp2_with fail
  refine (place_any _ _ _ [2, 2, 2, 3, 3] 2 1 6 _ (Ints.laid [2, 2, 2, 3, 3] _ rfl _ (by unfold I64; decide) (by decide) w2 _ (by simp)) (by decide) (by unfold maxLen; omega) ⟨by omega, by omega⟩ ⟨by omega, by omega⟩ ⟨by omega, by omega⟩).mono ?_
  rintro e w3 ⟨rfl, hb3⟩
  have hb23 := ((Below.refl w2.heap.size w2).alloc (Nat.le_refl _) (.cells #[.int .i64 2, .int .i64 2, .int .i64 2, .int .i64 3, .int .i64 3] 3)).trans (hb3.mono (by simp))
  have hb3' : Below w.heap.size w w3 := hb2'.trans (hb23.mono hb2'.size)
  have hR2 := hR1.below hb23 hb2.size
  have hz12 : w1.heap.size ≤ w2.heap.size := hb2.size
  have hz23 : w2.heap.size ≤ w3.heap.size := hb23.size
  clear hb3 hR1 hb23 hb2
  rw [rows_place]
  go_wp2_with fail
  refine (riseF_any _ _ _ [0, 0] ⟨1, 2, 1, 3⟩ _ (Ints.laid [0, 0] _ rfl _ (by unfold I64; decide) (by decide) w3 _ (by simp)) (by unfold Rc.b i64b; decide)).mono ?_
  intro e w4 h4
  unfold RiseRes at h4
  rw [rows_rise] at h4
  obtain ⟨A4, c4, rfl, hown4, hb4⟩ := h4
  have hb34 := ((Below.refl w3.heap.size w3).alloc (Nat.le_refl _) (.cells #[.int .i64 0, .int .i64 0] 3)).trans (hb4.mono (by simp))
  have hb4' : Below w.heap.size w w4 := hb3'.trans (hb34.mono hb3'.size)
  have hR3 := hR2.below hb34 (by omega)
  have hz34 : w3.heap.size ≤ w4.heap.size := hb34.size
  clear hb4 hb34 hR2
  simp only [show ([0, 5] : List Int).length = 2 from rfl] at *
  have hI4 := Ints.of_own hown4 (by unfold I64; decide) (by omega)
  clear hown4
  go_wp2_with fail
  refine (pack_as _ _ _ [] 0 1 _ ⟨Rd.nil, by simp, by omega⟩ (by decide) ⟨by omega, by omega⟩ ⟨by omega, by omega⟩ rows_arg).mono ?_
  intro e w5 h5
  obtain ⟨A5, c5, rfl, hown5, hb5⟩ := h5
  have hb5' : Below w.heap.size w w5 := hb4'.trans (hb5.mono hb4'.size)
  have hR4 := hR3.below hb5 (by omega)
  have hI5 := hI4.below hb5 (Nat.le_refl _)
  have hz45 : w4.heap.size ≤ w5.heap.size := hb5.size
  clear hown5 hb5 hR3 hI4
  simp only [List.length_nil]
  obtain ⟨g, hA, hgl, hgu, hgc, hcell⟩ := own_cells hown1 (by omega)
  subst hA
  have hc5 : ∀ j u, (cellsR rowsRects)[j]? = some u → w5.cell? ⟨g, j, none⟩ = some u := fun j u hu => by
    obtain ⟨ad, e, hb, hc⟩ := hR4.rd.2 (by omega)
    injection e with e; subst e
    rw [← addr_lit]
    exact hc j u hu
  have k0 := hc5 0 _ rfl
  have k1 := hc5 1 _ rfl
  have k2 := hc5 2 _ rfl
  have k3 := hc5 3 _ rfl
  have k4 := hc5 4 _ rfl
  have k5 := hc5 5 _ rfl
  have k6 := hc5 6 _ rfl
  have k7 := hc5 7 _ rfl
  have k8 := hc5 8 _ rfl
  have k9 := hc5 9 _ rfl
  have k10 := hc5 10 _ rfl
  have k11 := hc5 11 _ rfl
  have k12 := hc5 12 _ rfl
  have k13 := hc5 13 _ rfl
  have k14 := hc5 14 _ rfl
  have k15 := hc5 15 _ rfl
  clear hc5 hcell hown1
  have hg5 : g < w5.heap.size := by omega
  have HS := Lib.hid (same_b _ _ _ _ _ c4 _ 2 [0, 5] [0, 5] _ (hI5.below (b := w5.heap.size) ((Below.refl _ w5).alloc (Nat.le_refl _) (.cells #[.int .i64 0, .int .i64 5] 3)).drew (by omega)) ((Ints.laid [0, 5] _ rfl 3 (by unfold I64; decide) (by decide) w5 _ (Nat.lt_succ_self _)).below (b := w5.heap.size + 1) (Below.refl _ _).drew (Nat.le_refl _)))
  have HI : Hid (∀ W : World, Below w5.heap.size w5 W → Calls Try.prog 19 #[.int .i64 5, .int .i64 6, .slice (some ⟨g, 0, none⟩) 4 c1] W fun e w' => e = .returned (.bool true) ∧ Below W.heap.size W w') := Lib.hid fun W hW => by
    have := is_any (some ⟨g, 0, none⟩) 4 c1 rowsRects 5 6 W ((hR4.below hW (by omega)).more (by have := hW.size; omega)) hgc ⟨by omega, by omega⟩ ⟨by omega, by omega⟩
    rwa [rows_is] at this
  have HA : Hid (∀ W : World, Calls Try.prog 21 #[.agg #[.int .i64 0, .int .i64 0, .int .i64 3, .int .i64 2], .agg #[.int .i64 3, .int .i64 0, .int .i64 2, .int .i64 3]] W fun e w' => e = .returned (.bool true) ∧ Below W.heap.size W w') := Lib.hid fun W => by
    have := apart_any ⟨0, 0, 3, 2⟩ ⟨3, 0, 2, 3⟩ W (by unfold Rc.b i64b; decide) (by unfold Rc.b i64b; decide)
    rwa [rows_apart] at this
  rw [show sameL [0, 5] [0, 5] = true from by decide] at HS
  clear hR4 hI5
  go_wp2_with fail
  go_region_held3 (fun w' => w'.cell? ⟨g, 0, none⟩ = some (.int .i64 0) ∧ w'.cell? ⟨g, 1, none⟩ = some (.int .i64 0) ∧ w'.cell? ⟨g, 2, none⟩ = some (.int .i64 3) ∧ w'.cell? ⟨g, 3, none⟩ = some (.int .i64 2) ∧ w'.cell? ⟨g, 4, none⟩ = some (.int .i64 3) ∧ w'.cell? ⟨g, 5, none⟩ = some (.int .i64 0) ∧ w'.cell? ⟨g, 6, none⟩ = some (.int .i64 2) ∧ w'.cell? ⟨g, 7, none⟩ = some (.int .i64 3) ∧ w'.cell? ⟨g, 8, none⟩ = some (.int .i64 0) ∧ w'.cell? ⟨g, 9, none⟩ = some (.int .i64 2) ∧ w'.cell? ⟨g, 10, none⟩ = some (.int .i64 2) ∧ w'.cell? ⟨g, 11, none⟩ = some (.int .i64 1) ∧ w'.cell? ⟨g, 12, none⟩ = some (.int .i64 0) ∧ w'.cell? ⟨g, 13, none⟩ = some (.int .i64 3) ∧ w'.cell? ⟨g, 14, none⟩ = some (.int .i64 4) ∧ w'.cell? ⟨g, 15, none⟩ = some (.int .i64 2))
    (first | go_keep | ((try dsimp only); (repeat' apply And.intro) <;> (first | assumption | (rw [hby.cell (by simp; omega)]; assumption) | go_keep)))
    (first
      | (go_at_call 16; refine HS.out.mono ?_; rintro e wx ⟨rfl, hbx⟩; have hby : Below w5.heap.size w5 wx := (((Below.refl _ w5).alloc (Nat.le_refl _) (.cells #[.int .i64 0, .int .i64 5] 3)).drew).trans (hbx.mono (by simp)))
      | (go_at_call 19; refine (HI.out _ hby).mono ?_; rintro e wy ⟨rfl, hbx⟩; have hby : Below w5.heap.size w5 wy := hby.trans (hbx.mono hby.size))
      | (go_at_call 21; refine (HA.out _).mono ?_; rintro e wz ⟨rfl, hbx⟩; have hby : Below w5.heap.size w5 wz := hby.trans (hbx.mono hby.size)))
  go_wp2_with fail
  go_ret
  exact ⟨rfl, hb5'.trans (hby.mono hb5'.size)⟩
end Go.Proofs.Ytneoacbacflehaa
