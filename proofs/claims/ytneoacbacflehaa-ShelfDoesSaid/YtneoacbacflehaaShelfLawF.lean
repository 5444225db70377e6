/-
  THE WALK OF THE LAW ShelfDoes.
-/
import Derived.Test.YtneoacbacflehaaShelfLawA
import Derived.Test.YtneoacbacflehaaShelfLaw
import Derived.Test.YtneoacbacflehaaSameRWalk
import Derived.Test.YtneoacbacflehaaOwnRWalk
import Derived.Test.YtneoacbacflehaaShelfRefG
import Derived.Test.YtneoacbacflehaaShelfRefD
set_option linter.unusedVariables false
set_option linter.unusedSimpArgs false
namespace Go.Proofs.Ytneoacbacflehaa
open Go.RowKit

theorem riseF_i64 {sky : List Int} (r : Rc) (h : I64 sky) : I64 (riseF sky r).1 := by
  cases e : riseOk sky r with
  | false => rw [riseF_no e]; intro x hx; simp at hx
  | true =>
    rw [riseF_yes e]
    obtain ⟨_, ⟨_, h2⟩, _, _, h3, h4⟩ := riseOk_iff.1 e
    have := texel_iff.1 h2
    intro x hx
    rcases mem_riseTo hx with rfl | hx
    · omega
    · exact h x hx
theorem riseF_len {sky : List Int} (r : Rc) : (riseF sky r).1.length ≤ sky.length := by
  cases e : riseOk sky r with
  | false => rw [riseF_no e]; simp
  | true => rw [riseF_yes e]; simp [riseS, riseTo_length]
theorem packS_b (w h : Int) (ps : List Pt) : ∀ r ∈ (packS w h ps).1, r.b := by
  rcases packS_cases w h ps with ⟨hp, _⟩ | ⟨hp, _⟩ | ⟨l, sky, hp, hok, hg, I, hl, hsz⟩ <;> rw [hp] <;> intro r hr
  · simp at hr
  · simp at hr
  · have h1 := packOk_parts hok
    have := I.ins r hr
    exact ⟨⟨by omega, by omega⟩, ⟨by omega, by omega⟩, ⟨by omega, by omega⟩, ⟨by omega, by omega⟩⟩
theorem packS_len (w h : Int) (ps : List Pt) : (packS w h ps).1.length ≤ ps.length := by
  rcases packS_cases w h ps with ⟨hp, _⟩ | ⟨hp, _⟩ | ⟨l, sky, hp, hok, hg, I, hl, hsz⟩ <;> rw [hp] <;> simp
  exact Nat.le_of_eq hl
/-- four cells that stay -/
def Four (w : World) (g : Nat) (r : Rc) : Prop := w.cell? ⟨g, 0, none⟩ = some (.int .i64 r.x) ∧ w.cell? ⟨g, 1, none⟩ = some (.int .i64 r.y) ∧ w.cell? ⟨g, 2, none⟩ = some (.int .i64 r.w) ∧ w.cell? ⟨g, 3, none⟩ = some (.int .i64 r.h)
theorem Four.new (w : World) (r : Rc) (t : TypeId) : Four (w.alloc (.cells #[.int .i64 r.x, .int .i64 r.y, .int .i64 r.w, .int .i64 r.h] t)) w.heap.size r := by
  have h := heap_alloc_new w (.cells #[.int .i64 r.x, .int .i64 r.y, .int .i64 r.w, .int .i64 r.h] t)
  exact ⟨by rw [cell_of_row _ _ _ _ _ _ h]; rfl, by rw [cell_of_row _ _ _ _ _ _ h]; rfl, by rw [cell_of_row _ _ _ _ _ _ h]; rfl, by rw [cell_of_row _ _ _ _ _ _ h]; rfl⟩
theorem Four.below {w w' : World} {g B : Nat} {r : Rc} (h : Four w g r) (hb : Below B w w') (hg : g < B) : Four w' g r :=
  ⟨by rw [hb.cell (by simpa using hg)]; exact h.1, by rw [hb.cell (by simpa using hg)]; exact h.2.1, by rw [hb.cell (by simpa using hg)]; exact h.2.2.1, by rw [hb.cell (by simpa using hg)]; exact h.2.2.2⟩

set_option maxRecDepth 100000 in
set_option maxHeartbeats 6400000 in
theorem does_big (A0 : Option Addr) (n0 c0 : Nat) (ww h most : Int) (r s : Rc) (A6 : Option Addr) (n6 c6 : Nat) (A7 : Option Addr) (n7 c7 : Nat) (w : World) (hn0 : n0 ≤ 9223372036854775807) (hn6 : n6 ≤ 9223372036854775807) (hn7 : n7 ≤ 9223372036854775807)
    (hbig : (40 < n0 ∧ n0 ≤ 256) ∨ 300 < n0 ∨ 20 < n6 ∨ 20 < n7 ∨ (40 < ww ∧ ww ≤ 256)) :
    Calls Try.prog 3 #[.slice A0 n0 c0, .int .i64 ww, .int .i64 h, .int .i64 most, rcV r, rcV s, .slice A6 n6 c6, .slice A7 n7 c7] w fun e w' => e = .returned (.bool true) ∧ Below w.heap.size w w' := by
  have hfin : ∀ a b : Obj, Below w.heap.size w ((w.alloc a).alloc b) := fun a b => ((Below.refl _ _).alloc (Nat.le_refl _) _).alloc (by simp) _
  unfold rcV
  by_cases h1 : 40 < n0
  · have d1 : decide ((40 : Int) < (n0 : Int)) = true := decide_eq_true (by omega)
    by_cases h2 : n0 ≤ 256
    · have d2 : decide ((n0 : Int) ≤ 256) = true := decide_eq_true (by omega)
      go_enter Try.func3, Try.ntmps3
      go_wp2_with fail
      go_ret
      exact ⟨rfl, hfin _ _⟩
    have d2 : decide ((n0 : Int) ≤ 256) = false := decide_eq_false (by omega)
    by_cases h3 : 300 < n0
    · have d3 : decide ((300 : Int) < (n0 : Int)) = true := decide_eq_true (by omega)
      go_enter Try.func3, Try.ntmps3
      go_wp2_with fail
      go_ret
      exact ⟨rfl, hfin _ _⟩
    have d3 : decide ((300 : Int) < (n0 : Int)) = false := decide_eq_false (by omega)
    by_cases h4 : 20 < n6
    · have d4 : decide ((20 : Int) < (n6 : Int)) = true := decide_eq_true (by omega)
      go_enter Try.func3, Try.ntmps3
      go_wp2_with fail
      go_ret
      exact ⟨rfl, hfin _ _⟩
    have d4 : decide ((20 : Int) < (n6 : Int)) = false := decide_eq_false (by omega)
    by_cases h5 : 20 < n7
    · have d5 : decide ((20 : Int) < (n7 : Int)) = true := decide_eq_true (by omega)
      go_enter Try.func3, Try.ntmps3
      go_wp2_with fail
      go_ret
      exact ⟨rfl, hfin _ _⟩
    have d5 : decide ((20 : Int) < (n7 : Int)) = false := decide_eq_false (by omega)
    have d6 : decide (40 < ww) = true := decide_eq_true (by omega)
    have d7 : decide (ww ≤ 256) = true := decide_eq_true (by omega)
    go_enter Try.func3, Try.ntmps3
    go_wp2_with fail
    go_ret
    exact ⟨rfl, hfin _ _⟩
  · have d1 : decide ((40 : Int) < (n0 : Int)) = false := decide_eq_false (by omega)
    have d3 : decide ((300 : Int) < (n0 : Int)) = false := decide_eq_false (by omega)
    by_cases h4 : 20 < n6
    · have d4 : decide ((20 : Int) < (n6 : Int)) = true := decide_eq_true (by omega)
      go_enter Try.func3, Try.ntmps3
      go_wp2_with fail
      go_ret
      exact ⟨rfl, hfin _ _⟩
    have d4 : decide ((20 : Int) < (n6 : Int)) = false := decide_eq_false (by omega)
    by_cases h5 : 20 < n7
    · have d5 : decide ((20 : Int) < (n7 : Int)) = true := decide_eq_true (by omega)
      go_enter Try.func3, Try.ntmps3
      go_wp2_with fail
      go_ret
      exact ⟨rfl, hfin _ _⟩
    have d5 : decide ((20 : Int) < (n7 : Int)) = false := decide_eq_false (by omega)
    have d6 : decide (40 < ww) = true := decide_eq_true (by omega)
    have d7 : decide (ww ≤ 256) = true := decide_eq_true (by omega)
    go_enter Try.func3, Try.ntmps3
    go_wp2_with fail
    go_ret
    exact ⟨rfl, hfin _ _⟩

set_option maxRecDepth 100000 in
set_option maxHeartbeats 12800000 in
theorem does_main (A0 : Option Addr) (n0 c0 : Nat) (sky : List Int) (ww h most : Int) (r s : Rc) (A6 : Option Addr) (n6 c6 : Nat) (ps : List Pt) (A7 : Option Addr) (n7 c7 : Nat) (l : List Rc) (w : World)
    (hI : Ints w w.heap.size A0 n0 sky) (hc0 : n0 ≤ c0) (hm0 : c0 ≤ maxLen) (hP : Pts w w.heap.size A6 n6 ps) (hR : Rects w w.heap.size A7 n7 l) (hc7 : n7 ≤ c7) (bw : i64b ww) (bh : i64b h) (bm : i64b most) (br : r.b) (bs : s.b)
    (h0 : n0 ≤ 300) (h6 : n6 ≤ 20) (h7 : n7 ≤ 20) (h00 : n0 ≤ 40 ∨ 256 < n0) (hw : ww ≤ 40 ∨ 256 < ww) :
    Calls Try.prog 3 #[.slice A0 n0 c0, .int .i64 ww, .int .i64 h, .int .i64 most, rcV r, rcV s, .slice A6 n6 c6, .slice A7 n7 c7] w fun e w' => e = .returned (.bool true) ∧ Below w.heap.size w w' := by
  have d3 : decide ((300 : Int) < (n0 : Int)) = false := decide_eq_false (by omega)
  have d4 : decide ((20 : Int) < (n6 : Int)) = false := decide_eq_false (by omega)
  have d5 : decide ((20 : Int) < (n7 : Int)) = false := decide_eq_false (by omega)
  have d12 : (∃ b, decide ((40 : Int) < (n0 : Int)) = b ∧ (b = true → decide ((n0 : Int) ≤ 256) = false)) := by
    rcases h00 with h | h
    · exact ⟨false, decide_eq_false (by omega), by simp⟩
    · exact ⟨true, decide_eq_true (by omega), fun _ => decide_eq_false (by omega)⟩
  have d67 : (∃ b, decide (40 < ww) = b ∧ (b = true → decide (ww ≤ 256) = false)) := by
    rcases hw with h | h
    · exact ⟨false, decide_eq_false (by omega), by simp⟩
    · exact ⟨true, decide_eq_true (by omega), fun _ => decide_eq_false (by omega)⟩
  clear h00 hw
  have hbW : Below w.heap.size w ((w.alloc (.cells #[.int .i64 r.x, .int .i64 r.y, .int .i64 r.w, .int .i64 r.h] 24)).alloc (.cells #[.int .i64 s.x, .int .i64 s.y, .int .i64 s.w, .int .i64 s.h] 24)) := ((Below.refl _ _).alloc (Nat.le_refl _) _).alloc (by simp) _
  have hr0 := Lib.hid ((Four.new w r 24).below ((Below.refl _ _).alloc (Nat.le_refl _) (.cells #[.int .i64 s.x, .int .i64 s.y, .int .i64 s.w, .int .i64 s.h] 24)) (by simp))
  have hs0 := Lib.hid (Four.new (w.alloc (.cells #[.int .i64 r.x, .int .i64 r.y, .int .i64 r.w, .int .i64 r.h] 24)) s 24)
  rw [World.size_alloc] at hs0
  unfold rcV
  obtain ⟨b1, d1, d2⟩ := d12
  obtain ⟨b6, d6, d7⟩ := d67
  cases b1 <;> cases b6
  all_goals
    try replace d2 := d2 rfl
    try replace d7 := d7 rfl
    go_enter Try.func3, Try.ntmps3
    go_wp2_with fail
  all_goals
    obtain ⟨W, hW⟩ : ∃ W, W = (w.alloc (.cells #[.int .i64 r.x, .int .i64 r.y, .int .i64 r.w, .int .i64 r.h] 24)).alloc (.cells #[.int .i64 s.x, .int .i64 s.y, .int .i64 s.w, .int .i64 s.h] 24) := ⟨_, rfl⟩
    have hzW : w.heap.size + 2 = W.heap.size := by rw [hW]; simp
    rw [← hW] at hbW hr0 hs0 ⊢
    clear hW
    refine (own_ints_any A0 n0 c0 sky W ((hI.below hbW (Nat.le_refl _)).more (by omega)) (by omega)).mono ?_
    intro e w1 h1
    obtain ⟨A1, c1, rfl, hown1, hb1⟩ := h1
    have hIo1 := Ints.of_own hown1 hI.i64 (by omega)
    have hb01 : Below w.heap.size w w1 := hbW.trans (hb1.mono (by omega))
    have hz1 : W.heap.size ≤ w1.heap.size := hb1.size
    clear hown1
    go_wp2_with fail
    refine (own_rects_any A7 n7 c7 l w1 ((hR.below hb01 (Nat.le_refl _)).more (by omega)) (by omega)).mono ?_
    intro e w2 h2
    obtain ⟨A2, c2, rfl, hown2, hb2⟩ := h2
    have hRo2 := Rects.of_own hown2 hR.b (by omega)
    have hz2 : w1.heap.size ≤ w2.heap.size := hb2.size
    have hb02 : Below w.heap.size w w2 := hb01.trans (hb2.mono (by omega))
    have hIo2 := Lib.hid ((hIo1.below hb2 (Nat.le_refl _)).more hz2)
    have hRo2 := Lib.hid hRo2
    have hIa2 := Lib.hid ((hI.below hb02 (Nat.le_refl _)).more (show w.heap.size ≤ w2.heap.size by omega))
    have hRa2 := Lib.hid ((hR.below hb02 (Nat.le_refl _)).more (show w.heap.size ≤ w2.heap.size by omega))
    have hPa2 := Lib.hid ((hP.below hb02 (Nat.le_refl _)).more (show w.heap.size ≤ w2.heap.size by omega))
    have hr2 := Lib.hid ((hr0.out.below hb1 (by omega)).below hb2 (by omega))
    have hs2 := Lib.hid ((hs0.out.below hb1 (by omega)).below hb2 (by omega))
    have hzr : w.heap.size + 2 ≤ w2.heap.size := by omega
    clear hown2 hIo1 hr0 hs0 hb1 hb2 hb01 hI hR hP hbW
    go_wp2_with fail
    have HP1 := place_any A0 n0 c0 sky ww h most w2 hIa2.out hc0 hm0 bw bh bm
    have HP2 := fun W (hW : Below w2.heap.size w2 W) => rplace_any A1 n0 c1 sky ww h most W ((hIo2.out.below hW (Nat.le_refl _)).more hW.size)
    obtain ⟨⟨p1, p2, p3⟩, hpl⟩ : ∃ pl, pl = placeS sky ww h most := ⟨_, rfl⟩
    rw [← hpl] at HP1 HP2
    simp only at HP1 HP2
    have HP1 := Lib.hid HP1
    have HP2 := Lib.hid HP2
    clear hpl
    refine HP1.out.mono ?_
    clear HP1
    rintro e w3 ⟨rfl, hb3⟩
    go_wp2_with fail
    refine (HP2.out w3 hb3).mono ?_
    clear HP2
    rintro e w3' ⟨rfl, rfl⟩
    -- Rise, twice
    have HU1 := Lib.hid (fun W (hW : Below w2.heap.size w2 W) => riseF_any A0 n0 c0 sky r W ((hIa2.out.below hW (Nat.le_refl _)).more hW.size) br)
    have HU2 := Lib.hid (fun W (hW : Below w2.heap.size w2 W) => rrise_any A1 n0 c1 sky r W ((hIo2.out.below hW (Nat.le_refl _)).more hW.size) br)
    unfold RiseRes rcV at HU1
    unfold RiseRes at HU2
    have hU64 := Lib.hid (riseF_i64 r hIa2.out.i64)
    have hUl := riseF_len (sky := sky) r
    rw [hIa2.out.length] at hUl
    obtain ⟨⟨U, ue⟩, hU⟩ : ∃ u, u = riseF sky r := ⟨_, rfl⟩
    rw [← hU] at HU1 HU2 hU64 hUl
    clear hU
    simp only at HU1 HU2 hU64 hUl
    obtain ⟨nu, hnu⟩ : ∃ nu, nu = U.length := ⟨_, rfl⟩
    rw [← hnu] at HU1 HU2 hUl
    have HNU := Lib.hid hnu; clear hnu
    obtain ⟨r0, r1, r2, r3⟩ := hr2.out.below hb3 (by omega)
    go_wp2_with fail
    refine (HU1.out w3' hb3).mono ?_
    clear HU1 r0 r1 r2 r3
    intro e w4 h4
    obtain ⟨A4, c4, rfl, hown4, hb4⟩ := h4
    have hb24 : Below w2.heap.size w2 w4 := hb3.trans (hb4.mono hb3.size)
    have hz34 : w3'.heap.size ≤ w4.heap.size := hb4.size
    have hz23 : w2.heap.size ≤ w3'.heap.size := hb3.size
    have hIu4 := Lib.hid (Ints.of_own hown4 hU64.out (by omega))
    have hownU := Lib.hid (own_mono hown4 hz23)
    clear hown4 hb4 hb3
    obtain ⟨r0, r1, r2, r3⟩ := hr2.out.below hb24 (by omega)
    go_wp2_with fail
    refine (HU2.out w4 hb24).mono ?_
    clear HU2 r0 r1 r2 r3
    intro e w5 h5
    obtain ⟨A5, c5, rfl, hown5, hb5⟩ := h5
    have hb25 : Below w2.heap.size w2 w5 := hb24.trans (hb5.mono hb24.size)
    have hIv5 := Lib.hid (Ints.of_own hown5 hU64.out (by omega))
    have hz45 : w4.heap.size ≤ w5.heap.size := hb5.size
    have hb45 := hb5
    clear hown5 hb5 hb24
    -- Pack, twice
    have HX1 := Lib.hid (pack_any A6 n6 c6 ps ww h w5 ((hPa2.out.below hb25 (Nat.le_refl _)).more hb25.size) (by omega) bw bh)
    have HX2 := Lib.hid (fun W (hW : Below w2.heap.size w2 W) => rpack_any A6 n6 c6 ps ww h W ((hPa2.out.below hW (Nat.le_refl _)).more hW.size) (by omega) bw bh)
    unfold PackRes at HX1
    unfold PackRes at HX2
    have hXb := Lib.hid (packS_b ww h ps)
    have hXl := packS_len ww h ps
    rw [hPa2.out.length] at hXl
    obtain ⟨⟨X, xe⟩, hX⟩ : ∃ u, u = packS ww h ps := ⟨_, rfl⟩
    rw [← hX] at HX1 HX2 hXb hXl
    clear hX
    simp only at HX1 HX2 hXb hXl
    obtain ⟨nx, hnx⟩ : ∃ nx, nx = X.length := ⟨_, rfl⟩
    rw [← hnx] at HX1 HX2 hXl
    have HNX := Lib.hid hnx; clear hnx
    go_wp2_with fail
    refine HX1.out.mono ?_
    clear HX1
    intro e w6 h6
    obtain ⟨A6', c6', rfl, hown6, hb6⟩ := h6
    have hb26 : Below w2.heap.size w2 w6 := hb25.trans (hb6.mono hb25.size)
    have hRx6 := Lib.hid (Rects.of_own hown6 hXb.out (by omega))
    have hz56 : w5.heap.size ≤ w6.heap.size := hb6.size
    have hb46 := hb45.trans (hb6.mono (by omega))
    have hb56 := hb6
    clear hown6 hb6 hb45 hb25
    go_wp2_with fail
    refine (HX2.out w6 hb26).mono ?_
    clear HX2
    intro e w7 h7
    obtain ⟨A7', c7', rfl, hown7, hb7⟩ := h7
    have hb27 : Below w2.heap.size w2 w7 := hb26.trans (hb7.mono hb26.size)
    have hRy7 := Lib.hid (Rects.of_own hown7 hXb.out (by omega))
    have hz67 : w6.heap.size ≤ w7.heap.size := hb7.size
    have HS1 := Lib.hid (same_b _ _ A4 A5 nu c4 nu c5 U U w7 (hIu4.out.below (hb46.trans (hb7.mono (by omega))) (Nat.le_refl _)) (hIv5.out.below (hb56.trans (hb7.mono (by omega))) (Nat.le_refl _)))
    rw [show sameL U U = true from decide_eq_true rfl] at HS1
    have hb47 := hb46.trans (hb7.mono (by omega))
    have hb67 := hb7
    clear hown7 hb7 hb46 hb56 hb26
    go_wp2_with fail
    refine HS1.out.mono ?_
    clear HS1
    rintro e w8 ⟨rfl, hb8⟩
    have hb28 : Below w2.heap.size w2 w8 := hb27.trans (hb8.mono hb27.size)
    have hb48 := hb47.trans (hb8.mono (by omega))
    have HS2 := Lib.hid (sameR_any _ _ A6' A7' nx c6' nx c7' X X w8 ((hRx6.out.below hb67 (Nat.le_refl _)).below hb8 (by omega)) (hRy7.out.below hb8 (Nat.le_refl _)))
    rw [show decide (X = X) = true from decide_eq_true rfl] at HS2
    clear hb8 hb27 hb47 hb67
    go_wp2_with fail
    refine HS2.out.mono ?_
    clear HS2
    rintro e w9 ⟨rfl, q9, rfl⟩
    have hb29 : Below w2.heap.size w2 (w8.drewN q9) := below_drewN hb28 q9
    have hownU9 := Lib.hid (own_below hownU.out (below_drewN hb48 q9) (Nat.le_refl _))
    clear hb28 hb48 hownU hIu4 hIv5 hRx6 hRy7 hXb HNX hXl
    go_wp2_with fail
    go_loopw [34] (fun i wr => ∃ k : Nat, k ≤ nu ∧ i = .int .i64 k ∧ (∃ xs, Hid (wr.ownsRow w2.heap.size 3 1 (.slice A4 nu c4) nu xs)) ∧ Below w2.heap.size w2 wr) (fun i _ => nu - (intOf i).toNat)
    case atStart => exact ⟨0, by omega, rfl, ⟨_, hownU9⟩, hb29⟩
    case round =>
      obtain ⟨k, hk, rfl, ⟨xs, hxs⟩, hbl⟩ := hrel
      by_cases hlt : k < nu
      · obtain ⟨g, hA, hg1, hg2, hg3, hgc⟩ := own_cells hxs.out (by omega)
        subst hA
        have hlx : k < xs.length := by have := hxs.out.1; omega
        have hc : wr.cell? ⟨g, k, none⟩ = some (xs[k]'hlx) := hgc k _ (List.getElem?_eq_getElem hlx)
        have hf : wr.frozen? ⟨g, k, none⟩ = false := hxs.out.frozenAt k
        have ha : (⟨g, 0, none⟩ : Addr).add k = ⟨g, k, none⟩ := addr_lit _ _
        have k0 : (0 : Int) ≤ (k : Int) := by omega
        have k1 : (k : Int) < (nu : Int) := by omega
        have t0 : decide ((k : Int) < (nu : Int)) = true := decide_eq_true k1
        obtain ⟨hs1, hs2'⟩ := hxs.out.stored k (.int .i64 77)
        have HST := Lib.hid hs1
        clear hgc hs1 hs2'
        go_wp2_with fail
        go_roundw
        case rel => exact ⟨k + 1, by omega, by go_num, ⟨_, HST⟩, hbl.setCell (p := ⟨g, k, none⟩) hg1 _⟩
        case measure => simp only [intOf]; omega
      · have t0 : decide ((k : Int) < (nu : Int)) = false := decide_eq_false (by omega)
        clear hxs
        have hbw : Below w.heap.size w wr := hb02.trans (hbl.mono (by omega))
        have HI : Hid (∀ W, Below w2.heap.size w2 W → Calls Try.prog 19 #[.int .i64 ww, .int .i64 h, .slice A7 n7 c7] W fun e w' => e = .returned (.bool (isS ww h l)) ∧ Below W.heap.size W w') := Lib.hid fun W hW => is_any A7 n7 c7 l ww h W ((hRa2.out.below hW (Nat.le_refl _)).more hW.size) hc7 bw bh
        have HRI : Hid (∀ W, Below w2.heap.size w2 W → Calls Try.prog 20 #[.int .i64 ww, .int .i64 h, .slice A2 n7 c2] W fun e w' => e = .returned (.bool (isS ww h l)) ∧ Below W.heap.size W w') := Lib.hid fun W hW => ris_any A2 n7 c2 l ww h W ((hRo2.out.below hW (Nat.le_refl _)).more hW.size) bw bh
        have HA := Lib.hid (fun W => apart_any r s W br bs)
        have HRA := Lib.hid (fun W => rapart_any r s W br bs)
        unfold rcV at HA
        have HS1 : Hid (∀ W, Below w2.heap.size w2 W → Calls Try.prog 16 #[.slice A0 n0 c0, .slice A1 n0 c1] W fun e w' => e = .returned (.bool true) ∧ Below W.heap.size W w') := Lib.hid fun W hW => by
          have := same_b _ _ A0 A1 n0 c0 n0 c1 sky sky W (hIa2.out.below hW (Nat.le_refl _)) (hIo2.out.below hW (Nat.le_refl _))
          rwa [show sameL sky sky = true from decide_eq_true rfl] at this
        have HS2 : Hid (∀ W, Below w2.heap.size w2 W → Calls Try.prog 17 #[.slice A7 n7 c7, .slice A2 n7 c2] W fun e w' => e = .returned (.bool true) ∧ Below W.heap.size W w') := Lib.hid fun W hW => by
          have := sameR_any _ _ A7 A2 n7 c7 n7 c2 l l W (hRa2.out.below hW (Nat.le_refl _)) (hRo2.out.below hW (Nat.le_refl _))
          rw [show decide (l = l) = true from decide_eq_true rfl] at this
          exact this.mono fun _ _ ⟨he, q, hw⟩ => ⟨he, hw ▸ below_drewN (Below.refl _ _) q⟩
        generalize isS ww h l = pi at HI HRI
        generalize apartS r s = pa at HA HRA
        obtain ⟨r0, r1, r2, r3⟩ := hr2.out.below hbl (by omega)
        obtain ⟨s0, s1, s2, s3⟩ := hs2.out.below hbl (by omega)
        go_wp2_with fail
        go_region_held3 (fun w' => w'.cell? ⟨w.heap.size, 0, none⟩ = some (.int .i64 r.x) ∧ w'.cell? ⟨w.heap.size, 1, none⟩ = some (.int .i64 r.y) ∧ w'.cell? ⟨w.heap.size, 2, none⟩ = some (.int .i64 r.w) ∧ w'.cell? ⟨w.heap.size, 3, none⟩ = some (.int .i64 r.h) ∧ w'.cell? ⟨w.heap.size + 1, 0, none⟩ = some (.int .i64 s.x) ∧ w'.cell? ⟨w.heap.size + 1, 1, none⟩ = some (.int .i64 s.y) ∧ w'.cell? ⟨w.heap.size + 1, 2, none⟩ = some (.int .i64 s.w) ∧ w'.cell? ⟨w.heap.size + 1, 3, none⟩ = some (.int .i64 s.h))
          (first | go_keep | ((try dsimp only); (repeat' apply And.intro) <;> (first | assumption | (rw [hby.cell (by simp; omega)]; assumption) | go_keep)))
          (first
            | (go_at_call 18; refine (shelved_any _).mono ?_; rintro e wx ⟨rfl, hbx⟩; have hby : Below w2.heap.size wr wx := ((Below.refl _ wr).drew).trans (hbx.mono (by have := hbl.size; simpa using this)))
            | (go_at_call 19; refine (HI.out _ (hbl.trans hby)).mono ?_; clear HI; rintro e wy ⟨rfl, hbx⟩; have hby : Below w2.heap.size wr wy := hby.trans (hbx.mono (hbl.trans hby).size))
            | (go_at_call 20; refine (HRI.out _ (hbl.trans hby)).mono ?_; clear HRI; rintro e wz ⟨rfl, hbx⟩; have hby : Below w2.heap.size wr wz := hby.trans (hbx.mono (hbl.trans hby).size))
            | (go_at_call 21; refine (HA.out _).mono ?_; clear HA; rintro e wa ⟨rfl, hbx⟩; have hby : Below w2.heap.size wr wa := hby.trans (hbx.mono (hbl.trans hby).size))
            | (go_at_call 22; refine (HRA.out _).mono ?_; clear HRA; rintro e wb ⟨rfl, hbx⟩; have hby : Below w2.heap.size wr wb := hby.trans (hbx.mono (hbl.trans hby).size))
            | (go_at_call 16; refine (HS1.out _ (hbl.trans hby)).mono ?_; clear HS1; rintro e wc ⟨rfl, hbx⟩; have hby : Below w2.heap.size wr wc := hby.trans (hbx.mono (hbl.trans hby).size))
            | (go_at_call 17; refine (HS2.out _ (hbl.trans hby)).mono ?_; clear HS2; rintro e wd ⟨rfl, hbx⟩; have hby : Below w2.heap.size wr wd := hby.trans (hbx.mono (hbl.trans hby).size)))
        go_wp2_with fail
        go_ret
        exact ⟨rfl, hbw.trans (hby.mono (by omega))⟩
end Go.Proofs.Ytneoacbacflehaa
