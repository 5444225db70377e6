/-
  THE LAW FaceFan.
-/
import Derived.Test.YtkdffcoofijhkaaDoorFaceWalkI
import Derived.Test.YtkdffcoofijhkaaDoorFaceWalkG
import Derived.Test.YtkdffcoofijhkaaDoorScanLawA
import Derived.BigQuiet
import Derived.Test.YtkdffcoofijhkaaDoorSkip
set_option linter.unusedVariables false
set_option linter.unusedSimpArgs false
set_option maxRecDepth 100000
namespace Go.Proofs.YtkdffcoofijhkaaDoor
open Go.RowKit

theorem Tris.get9 {w : World} {B n k : Nat} {A : Option Addr} {l : List T3} (h : Tris w B A n l) (hk : k < n) : ∃ ad t, A = some ad ∧ ad.block < B ∧ l[k]? = some t ∧
    w.cell? (ad.add (k * 9)) = some (.int .i64 t.p.a) ∧ w.cell? ⟨(ad.add (k * 9)).block, (ad.add (k * 9)).off + 1, none⟩ = some (.int .i64 t.p.b) ∧ w.cell? ⟨(ad.add (k * 9)).block, (ad.add (k * 9)).off + 2, none⟩ = some (.int .i64 t.p.c) ∧
    w.cell? ⟨(ad.add (k * 9)).block, (ad.add (k * 9)).off + 3, none⟩ = some (.int .i64 t.q.a) ∧ w.cell? ⟨(ad.add (k * 9)).block, (ad.add (k * 9)).off + 4, none⟩ = some (.int .i64 t.q.b) ∧ w.cell? ⟨(ad.add (k * 9)).block, (ad.add (k * 9)).off + 5, none⟩ = some (.int .i64 t.q.c) ∧
    w.cell? ⟨(ad.add (k * 9)).block, (ad.add (k * 9)).off + 6, none⟩ = some (.int .i64 t.r.a) ∧ w.cell? ⟨(ad.add (k * 9)).block, (ad.add (k * 9)).off + 7, none⟩ = some (.int .i64 t.r.b) ∧ w.cell? ⟨(ad.add (k * 9)).block, (ad.add (k * 9)).off + 8, none⟩ = some (.int .i64 t.r.c) := by
  obtain ⟨ad, t, e, hb, hx, _, hc⟩ := h.get hk
  refine ⟨ad, t, e, hb, hx, hc 0 _ rfl, ?_, ?_, ?_, ?_, ?_, ?_, ?_, ?_⟩
  · rw [← addr_off _ (by omega), addr_add_add]; exact hc 1 _ rfl
  · rw [← addr_off _ (by omega), addr_add_add]; exact hc 2 _ rfl
  · rw [← addr_off _ (by omega), addr_add_add]; exact hc 3 _ rfl
  · rw [← addr_off _ (by omega), addr_add_add]; exact hc 4 _ rfl
  · rw [← addr_off _ (by omega), addr_add_add]; exact hc 5 _ rfl
  · rw [← addr_off _ (by omega), addr_add_add]; exact hc 6 _ rfl
  · rw [← addr_off _ (by omega), addr_add_add]; exact hc 7 _ rfl
  · rw [← addr_off _ (by omega), addr_add_add]; exact hc 8 _ rfl
theorem fan_many (A : Option Addr) (n c : Nat) (w : World) (h : 60 < n) (hn : n ≤ 9223372036854775807) : Calls Tryd.prog 3 #[.slice A n c] w (Yes w) := by
  have t0 : decide ((60 : Int) < (n : Int)) = true := decide_eq_true (by omega)
  unfold Yes
  go_enter Tryd.func3, Tryd.ntmps3
  go_wp2_with fail
  go_ret
  exact ⟨rfl, Below.refl _ _⟩
set_option maxHeartbeats 3200000 in
theorem fan_few (B : Nat) (A : Option Addr) (n c : Nat) (l : List P3) (w : World) (h : Cors w B A n l) (hB : B ≤ w.heap.size) (hn : n ≤ 60) (hE : Env w) : Calls Tryd.prog 3 #[.slice A n c] w (Yes w) := by
  have t0 : decide ((60 : Int) < (n : Int)) = false := decide_eq_false (by omega)
  have K1 := Lib.hid (fan_any B A n c l w h hB (by omega))
  have K2 := Lib.hid (fun W hW => faced_any W hW)
  have HE := Lib.hid hE; clear hE
  have hlen := Lib.hid h.length
  have HH := Lib.hid h; clear h
  unfold Yes FanRes LoneRes at *
  rw [fanS_length, hlen.out] at K1
  obtain ⟨m, hm⟩ : ∃ m, m = n - 2 := ⟨_, rfl⟩
  rw [← hm] at K1
  have HMX : ∀ ts ty W, (Builtin.max_ ts ty #[.int .i64 ((n : Int) - 2), .int .i64 0]).run Tryd.prog W = .ok (.int .i64 (m : Int)) W := fun ts ty W => by
    rw [run_max_int2]
    have : (if (0 : Int) > (n : Int) - 2 then (0 : Int) else (n : Int) - 2) = (m : Int) := by split <;> omega
    rw [this]
  have hm2 : m + 2 = n ∨ m = 0 := by omega
  have HM2 := Lib.hid hm2
  have HM := Lib.hid hm
  clear hm hm2
  go_enter Tryd.func3, Tryd.ntmps3
  go_wp2_with fail
  refine K1.out.mono ?_
  clear K1
  rintro e w1 ⟨A', c', rfl, hown, hb1⟩
  have HB := Lib.hid hb1
  have hT : Tris w1 w1.heap.size A' m (fanS l) := ⟨Rd.of_own hown, by have := HM.out; omega⟩
  have HT := Lib.hid hT
  have HC := Lib.hid (HH.out.below hb1 hB)
  have hBw : B ≤ w1.heap.size := by have := hb1.size; omega
  clear hT hown hb1 HH
  go_wp2_with fail
  go_loopw [4] (fun i wr => ∃ k : Nat, k ≤ m ∧ i = .int .i64 (k : Int) ∧ Below w1.heap.size w1 wr) (fun i _ => m - (intOf i).toNat)
  case atStart => exact ⟨0, by omega, rfl, Below.refl _ _⟩
  case round =>
    obtain ⟨k, hk, rfl, hbr⟩ := hrel
    have hT := HT.out.below hbr (Nat.le_refl _)
    have hC := HC.out.below hbr hBw
    have hBr := hbr.size
    have HBR := Lib.hid hbr; clear hbr
    by_cases hlt : k < m
    · have t1 : decide ((k : Int) < (m : Int)) = true := decide_eq_true (by omega)
      have hmn : m + 2 = n := by rcases HM2.out with h | h <;> omega
      obtain ⟨ad, t, rfl, hbk, hx, p0, p1, p2, q0, q1, q2, _, _, _⟩ := hT.get9 hlt
      obtain ⟨bd, a, rfl, hbk0, hx0, _, a0, a1, a2⟩ := hC.get (k := 0) (by omega)
      obtain ⟨bd1, b, e1, _, hx1, _, b0, b1, b2⟩ := hC.get (k := k + 1) (by omega)
      obtain rfl : bd = bd1 := by injection e1
      obtain ⟨bd2, cc, e2, _, hx2, _, _, _, _⟩ := hC.get (k := k + 2) (by omega)
      obtain rfl : t = ⟨a, b, cc⟩ := by
        have := (fanS_get l k a b cc hx0 hx1 hx2).symm.trans hx
        injection this with h9; exact h9.symm
      rw [Nat.zero_mul, show bd.add 0 = bd from rfl] at a0 a1 a2
      have w1' : IntKind.i64.wrap ((k : Int) + 1) = (k : Int) + 1 := by rw [IntKind.wrap_i64]; omega
      have w6 : (k : Int) + 1 < (n : Int) := by omega
      have w4 : 0 < n := by omega
      have w8 : ((k : Int) + 1).toNat = k + 1 := by omega
      have w9 : (0 : Int) ≤ (k : Int) + 1 := by omega
      have w5 : (k : Int) < (m : Int) := by omega
      have hk1 : k + 1 ≤ m := by omega
      have HB' : Hid (Below w1.heap.size w1 wr) := HBR
      by_cases h0 : k = 0
      · have g0 : decide (0 < k) = false := decide_eq_false (by omega)
        clear hx hx0 hx1 hx2 e1 e2 hmn hT hC
        obtain ⟨a0', a1', a2'⟩ := a
        obtain ⟨b0', b1', b2'⟩ := b
        simp only at p0 p1 p2 q0 q1 q2 a0 a1 a2 b0 b1 b2
        clear h0
        go_wp2_with fail
        go_quiet (fail)
        go_wp2_with fail
        go_roundw
        case rel => exact ⟨k + 1, hk1, by go_num, below_drewN HBR.out _⟩
        case measure => simp only [intOf]; omega
      · have g0 : decide (0 < k) = true := decide_eq_true (by omega)
        obtain ⟨j, hj⟩ : ∃ j, k = j + 1 := ⟨k - 1, by omega⟩
        obtain ⟨ad3, t3, e3, _, hx3, _, _, _, _, _, _, r0, r1, r2⟩ := hT.get9 (k := j) (by omega)
        obtain rfl : ad = ad3 := by injection e3
        obtain ⟨bd4, dd, e4, _, hx4, _, _, _, _⟩ := hC.get (k := j + 1) (by omega)
        have hx5 : l[j + 2]? = some b := by rw [← hx1, hj]
        obtain rfl : t3 = ⟨a, dd, b⟩ := by
          have := (fanS_get l j a dd b hx0 hx4 hx5).symm.trans hx3
          injection this with h9; exact h9.symm
        have v1 : IntKind.i64.wrap ((k : Int) - 1) = (j : Int) := by rw [IntKind.wrap_i64]; omega
        have v2 : (j : Int) < (m : Int) := by omega
        clear hx hx0 hx1 hx2 e1 e2 hmn hT hC hx3 hx4 hx5 e3 e4 hj
        obtain ⟨a0', a1', a2'⟩ := a
        obtain ⟨b0', b1', b2'⟩ := b
        simp only at p0 p1 p2 q0 q1 q2 a0 a1 a2 b0 b1 b2 r0 r1 r2
        clear h0
        go_wp2_with fail
        go_quiet (fail)
        go_wp2_with fail
        go_roundw
        case rel => exact ⟨k + 1, hk1, by go_num, below_drewN HBR.out _⟩
        case measure => simp only [intOf]; omega
    · have t1 : decide ((k : Int) < (m : Int)) = false := decide_eq_false (by omega)
      have HB2 := Lib.hid (HB.out.trans (HBR.out.mono HB.out.size))
      obtain rfl : k = m := by omega
      rcases Nat.eq_zero_or_pos k with hm0 | hm0
      · obtain rfl := hm0
        clear hT hC
        go_wp2_with fail
        refine wp_region_held_drew (S := fun _ => True) (by kernel_rfl) ?_ (fun hHeld => ?_)
        · trivial
        refine wpAnyH_ready (rs := [0]) (by kernel_rfl) (by simp) ?_
        refine AllReadyH.cons (o := _) rfl (fun K hK => ?_) AllReadyH.nil
        go_simp
        refine (K2.out _ (HE.out.on HB2.out.drew)).mono ?_
        clear K2
        rintro e wx ⟨rfl, hbx⟩
        have hby : Below w.heap.size w wx := HB2.out.drew.trans (hbx.mono HB2.out.size)
        try go_simp
        refine hK.out _ _ ?_ (fun hHeld => ?_)
        · trivial
        clear hK K
        refine wpAnyH_takeD 1 (d := (some 64)) (v := ?_) rfl rfl (by kernel_rfl) (by kernel_rfl) (by kernel_rfl) (by kernel_rfl) (fun _ _ _ h => h) ?_ (by assumption) ?_
        rotate_left
        · intro ww hSw; (try dsimp only at hSw); first | (go_simp; done) | (go_simp; with_reducible rfl)
        simp only [Act.put, List.setIfInBounds_toArray, List.set_cons_zero, List.set_cons_succ]
        refine wpAnyH_takeD 2 (d := (some 65)) (v := ?_) rfl rfl (by kernel_rfl) (by kernel_rfl) (by kernel_rfl) (by kernel_rfl) (fun _ _ _ h => h) ?_ (by assumption) ?_
        rotate_left
        · intro ww hSw; (try dsimp only at hSw); first | (go_simp; done) | (go_simp; with_reducible rfl)
        simp only [Act.put, List.setIfInBounds_toArray, List.set_cons_zero, List.set_cons_succ]
        refine wpAnyH_takeD 3 (d := (some 66)) (v := ?_) rfl rfl (by kernel_rfl) (by kernel_rfl) (by kernel_rfl) (by kernel_rfl) (fun _ _ _ h => h) ?_ (by assumption) ?_
        rotate_left
        · intro ww hSw; (try dsimp only at hSw); first | (go_simp; done) | (go_simp; with_reducible rfl)
        simp only [Act.put, List.setIfInBounds_toArray, List.set_cons_zero, List.set_cons_succ]
        refine wpAnyH_takeD 4 (d := (some 67)) (v := ?_) rfl rfl (by kernel_rfl) (by kernel_rfl) (by kernel_rfl) (by kernel_rfl) (fun _ _ _ h => h) ?_ (by assumption) ?_
        rotate_left
        · intro ww hSw; (try dsimp only at hSw); first | (go_simp; done) | (go_simp; with_reducible rfl)
        simp only [Act.put, List.setIfInBounds_toArray, List.set_cons_zero, List.set_cons_succ]
        refine wpAnyH_takeD 5 (d := (some 68)) (v := ?_) rfl rfl (by kernel_rfl) (by kernel_rfl) (by kernel_rfl) (by kernel_rfl) (fun _ _ _ h => h) ?_ (by assumption) ?_
        rotate_left
        · intro ww hSw; (try dsimp only at hSw); first | (go_simp; done) | (go_simp; with_reducible rfl)
        simp only [Act.put, List.setIfInBounds_toArray, List.set_cons_zero, List.set_cons_succ]
        refine wpAnyH_skip 6 (d := (some 69)) (by kernel_rfl) (by kernel_rfl) (by kernel_rfl) (by kernel_rfl) (fun _ _ _ h => h) (by assumption) ?_
        simp only [Act.put, List.setIfInBounds_toArray, List.set_cons_zero, List.set_cons_succ]
        refine wpAnyH_skip 7 (d := (some 70)) (by kernel_rfl) (by kernel_rfl) (by kernel_rfl) (by kernel_rfl) (fun _ _ _ h => h) (by assumption) ?_
        simp only [Act.put, List.setIfInBounds_toArray, List.set_cons_zero, List.set_cons_succ]
        refine wpAnyH_skip 8 (d := (some 71)) (by kernel_rfl) (by kernel_rfl) (by kernel_rfl) (by kernel_rfl) (fun _ _ _ h => h) (by assumption) ?_
        simp only [Act.put, List.setIfInBounds_toArray, List.set_cons_zero, List.set_cons_succ]
        refine wpAnyH_skip 9 (d := (some 72)) (by kernel_rfl) (by kernel_rfl) (by kernel_rfl) (by kernel_rfl) (fun _ _ _ h => h) (by assumption) ?_
        simp only [Act.put, List.setIfInBounds_toArray, List.set_cons_zero, List.set_cons_succ]
        refine wpAnyH_skip 10 (d := (some 73)) (by kernel_rfl) (by kernel_rfl) (by kernel_rfl) (by kernel_rfl) (fun _ _ _ h => h) (by assumption) ?_
        simp only [Act.put, List.setIfInBounds_toArray, List.set_cons_zero, List.set_cons_succ]
        refine wpAnyH_skip 11 (d := (some 74)) (by kernel_rfl) (by kernel_rfl) (by kernel_rfl) (by kernel_rfl) (fun _ _ _ h => h) (by assumption) ?_
        simp only [Act.put, List.setIfInBounds_toArray, List.set_cons_zero, List.set_cons_succ]
        refine wpAnyH_skip 12 (d := (some 75)) (by kernel_rfl) (by kernel_rfl) (by kernel_rfl) (by kernel_rfl) (fun _ _ _ h => h) (by assumption) ?_
        simp only [Act.put, List.setIfInBounds_toArray, List.set_cons_zero, List.set_cons_succ]
        refine wpAnyH_skip 13 (d := (some 76)) (by kernel_rfl) (by kernel_rfl) (by kernel_rfl) (by kernel_rfl) (fun _ _ _ h => h) (by assumption) ?_
        simp only [Act.put, List.setIfInBounds_toArray, List.set_cons_zero, List.set_cons_succ]
        refine wpAnyH_skip 14 (d := (some 77)) (by kernel_rfl) (by kernel_rfl) (by kernel_rfl) (by kernel_rfl) (fun _ _ _ h => h) (by assumption) ?_
        simp only [Act.put, List.setIfInBounds_toArray, List.set_cons_zero, List.set_cons_succ]
        refine wpAnyH_skip 15 (d := (some 78)) (by kernel_rfl) (by kernel_rfl) (by kernel_rfl) (by kernel_rfl) (fun _ _ _ h => h) (by assumption) ?_
        simp only [Act.put, List.setIfInBounds_toArray, List.set_cons_zero, List.set_cons_succ]
        refine wpAnyH_skip 16 (d := (some 79)) (by kernel_rfl) (by kernel_rfl) (by kernel_rfl) (by kernel_rfl) (fun _ _ _ h => h) (by assumption) ?_
        simp only [Act.put, List.setIfInBounds_toArray, List.set_cons_zero, List.set_cons_succ]
        refine wpAnyH_skip 17 (d := (some 80)) (by kernel_rfl) (by kernel_rfl) (by kernel_rfl) (by kernel_rfl) (fun _ _ _ h => h) (by assumption) ?_
        simp only [Act.put, List.setIfInBounds_toArray, List.set_cons_zero, List.set_cons_succ]
        refine wpAnyH_skip 18 (d := (some 81)) (by kernel_rfl) (by kernel_rfl) (by kernel_rfl) (by kernel_rfl) (fun _ _ _ h => h) (by assumption) ?_
        simp only [Act.put, List.setIfInBounds_toArray, List.set_cons_zero, List.set_cons_succ]
        refine wpAnyH_skip 19 (d := (some 82)) (by kernel_rfl) (by kernel_rfl) (by kernel_rfl) (by kernel_rfl) (fun _ _ _ h => h) (by assumption) ?_
        simp only [Act.put, List.setIfInBounds_toArray, List.set_cons_zero, List.set_cons_succ]
        refine wpAnyH_takeD 20 (d := (some 83)) (v := ?_) rfl rfl (by kernel_rfl) (by kernel_rfl) (by kernel_rfl) (by kernel_rfl) (fun _ _ _ h => h) ?_ (by assumption) ?_
        rotate_left
        · intro ww hSw; (try dsimp only at hSw); first | (go_simp; done) | (go_simp; with_reducible rfl)
        simp only [Act.put, List.setIfInBounds_toArray, List.set_cons_zero, List.set_cons_succ]
        refine wpAnyH_takeD 21 (d := (some 84)) (v := ?_) rfl rfl (by kernel_rfl) (by kernel_rfl) (by kernel_rfl) (by kernel_rfl) (fun _ _ _ h => h) ?_ (by assumption) ?_
        rotate_left
        · intro ww hSw; (try dsimp only at hSw); first | (go_simp; done) | (go_simp; with_reducible rfl)
        simp only [Act.put, List.setIfInBounds_toArray, List.set_cons_zero, List.set_cons_succ]
        refine wpAnyH_takeD 22 (d := (some 2)) (v := ?_) rfl rfl (by kernel_rfl) (by kernel_rfl) (by kernel_rfl) (by kernel_rfl) (fun _ _ _ h => h) ?_ (by assumption) ?_
        rotate_left
        · intro ww hSw; (try dsimp only at hSw); first | (go_simp; done) | (go_simp; with_reducible rfl)
        simp only [Act.put, List.setIfInBounds_toArray, List.set_cons_zero, List.set_cons_succ]
        refine wpAnyH_done (by kernel_rfl) ?_ _
        go_wp2_with fail
        go_ret
        exact ⟨rfl, hby⟩
      · have g0 : ((k : Int) == 0) = false := by rw [beq_eq_false_iff_ne]; omega
        have g1 : (k == 0) = false := by rw [beq_eq_false_iff_ne]; omega
        have hmn : k + 2 = n := by rcases HM2.out with h | h <;> omega
        obtain ⟨j, hj⟩ : ∃ j, k = j + 1 := ⟨k - 1, by omega⟩
        obtain ⟨q, hq⟩ : ∃ q, n = q + 1 := ⟨n - 1, by omega⟩
        obtain ⟨ad, t3, rfl, hbk, hx3, _, _, _, _, _, _, r0, r1, r2⟩ := hT.get9 (k := j) (by omega)
        obtain ⟨bd, b, rfl, hbk0, hx2, _, b0, b1, b2⟩ := hC.get (k := q) (by omega)
        obtain ⟨bd1, aa, e1, _, hx0, _, _, _, _⟩ := hC.get (k := 0) (by omega)
        obtain ⟨bd2, dd, e2, _, hx1, _, _, _, _⟩ := hC.get (k := j + 1) (by omega)
        have hx5 : l[j + 2]? = some b := by rw [← hx2]; congr 1; omega
        obtain rfl : t3 = ⟨aa, dd, b⟩ := by
          have := (fanS_get l j aa dd b hx0 hx1 hx5).symm.trans hx3
          injection this with h9; exact h9.symm
        have v1 : IntKind.i64.wrap ((k : Int) - 1) = (j : Int) := by rw [IntKind.wrap_i64]; omega
        have v2 : (j : Int) < (k : Int) := by omega
        have v3 : IntKind.i64.wrap ((n : Int) - 1) = (q : Int) := by rw [IntKind.wrap_i64]; omega
        have v4 : (q : Int) < (n : Int) := by omega
        obtain ⟨b0', b1', b2'⟩ := b
        simp only at b0 b1 b2 r0 r1 r2
        have ha1 : (ad.add (j * 9)).block < wr.heap.size := by rw [addr_block]; omega
        have hb1 : (bd.add (q * 3)).block < wr.heap.size := by rw [addr_block]; omega
        clear e1 e2 hT hC hx3 hx2 hx0 hx1 hx5 hj hq hmn hm0 t1
        go_wp2_with fail

        go_region_held3 (fun w' => w'.cell? ⟨(ad.add (j * 9)).block, (ad.add (j * 9)).off + 6, none⟩ = some (.int .i64 b0') ∧ w'.cell? ⟨(ad.add (j * 9)).block, (ad.add (j * 9)).off + 7, none⟩ = some (.int .i64 b1') ∧ w'.cell? ⟨(ad.add (j * 9)).block, (ad.add (j * 9)).off + 8, none⟩ = some (.int .i64 b2') ∧
            w'.cell? (bd.add (q * 3)) = some (.int .i64 b0') ∧ w'.cell? ⟨(bd.add (q * 3)).block, (bd.add (q * 3)).off + 1, none⟩ = some (.int .i64 b1') ∧ w'.cell? ⟨(bd.add (q * 3)).block, (bd.add (q * 3)).off + 2, none⟩ = some (.int .i64 b2'))
          (first | (go_keep; done) | (refine ⟨?_, ?_, ?_, ?_, ?_, ?_⟩ <;> (refine (hbz.cell (by assumption)).trans ?_; assumption)))
          (first | (go_at_call 14; refine (K2.out _ (HE.out.on HB2.out.drew)).mono ?_; clear K2; rintro e wx ⟨rfl, hbx⟩; have hby : Below w.heap.size w wx := HB2.out.drew.trans (hbx.mono HB2.out.size); have hbz : Below wr.heap.size wr wx := (Below.refl _ wr).drew.trans (hbx.mono (by simp))))
        go_wp2_with fail
        go_ret
        exact ⟨rfl, hby⟩
theorem facefan_row (B : Nat) (A : Option Addr) (n c : Nat) (l : List P3) (w : World) (h : Cors w B A n l) (hB : B ≤ w.heap.size) (hE : Env w) : Calls Tryd.prog 3 #[.slice A n c] w fun e w' => e = .returned (.bool true) ∧ Below w.heap.size w w' := by
  by_cases hn : n ≤ 60
  · exact fan_few B A n c l w h hB hn hE
  · exact fan_many A n c w (by omega) h.len
end Go.Proofs.YtkdffcoofijhkaaDoor
