/-
  THE LAW WideOrder.
-/
import Derived.Test.YtcllghcplphijaaDoorWideLawD
import Derived.Deep.DeepCutAuto
set_option linter.unusedVariables false
set_option linter.unusedSimpArgs false
set_option maxRecDepth 8000
namespace Go.Proofs.YtcllghcplphijaaDoor
open Go.RowKit

theorem wCmp_anti (a b : Pt) : wCmp b a = -wCmp a b := by
  unfold wCmp
  by_cases e : a = b
  · subst e; simp
  · have e' : ¬ b = a := fun h => e h.symm
    rw [if_neg e, if_neg e']
    by_cases h1 : a.x < b.x
    · simp [h1, show ¬ b.x < a.x by omega]
    · by_cases h2 : b.x < a.x
      · simp [h1, h2]
      · by_cases h3 : a.y < b.y
        · simp [h1, h2, h3, show ¬ b.y < a.y by omega]
        · have h4 : b.y < a.y := by
            have hx : a.x = b.x := by omega
            have hy : a.y ≠ b.y := fun h => e (by cases a; cases b; simp_all)
            omega
          simp [h1, h2, h3, h4]
theorem wOf_b' {n : Int} (h : i64b n) : (wOf n).b := by
  unfold i64b at h
  unfold Pt.b i64b wOf; simp only; omega
theorem wCmp_three (a b : Pt) : wCmp a b = -1 ∨ wCmp a b = 0 ∨ wCmp a b = 1 := by
  unfold wCmp
  split
  · exact .inr (.inl rfl)
  · split
    · exact .inl rfl
    · split
      · exact .inr (.inr rfl)
      · split
        · exact .inl rfl
        · exact .inr (.inr rfl)
theorem wIs_y {a : Pt} (h : wIs a = true) : 0 ≤ a.y ∧ a.y < 1000000000000000000 := by
  rw [wIs_iff] at h; exact ⟨h.1, h.2.1⟩
theorem wOf_y (m : Int) : 0 ≤ (wOf m).y ∧ (wOf m).y < 1000000000000000000 := by unfold wOf; simp only; omega
theorem wCmp_both {a b c : Pt} (e : (wAdd [a, c]).2 = 0) (f : (wAdd [b, c]).2 = 0) : wCmp (wAdd [a, c]).1 (wAdd [b, c]).1 = wCmp a b := by
  obtain ⟨a1, _, e1, _⟩ := wAdd_ok e
  obtain ⟨b1, _, f1, _⟩ := wAdd_ok f
  rw [e1, f1, wCmp_num (wOf_y _) (wOf_y _), wCmp_num (wIs_y a1) (wIs_y b1), wval_wOf, wval_wOf]
  by_cases h : wval a = wval b
  · rw [if_pos h, if_pos (by omega)]
  · rw [if_neg h, if_neg (by omega)]
    by_cases h2 : wval a < wval b
    · rw [if_pos h2, if_pos (by omega)]
    · rw [if_neg h2, if_neg (by omega)]
theorem wMul_comm (n m : Int) : wMul n m = wMul m n := by
  unfold wMul
  by_cases h : -1000000000000000000 ≤ n ∧ n ≤ 1000000000000000000 ∧ -1000000000000000000 ≤ m ∧ m ≤ 1000000000000000000
  · rw [if_pos h, if_pos ⟨h.2.2.1, h.2.2.2, h.1, h.2.1⟩, Int.mul_comm]
  · rw [if_neg h, if_neg (fun h' => h ⟨h'.2.2.1, h'.2.2.2, h'.1, h'.2.1⟩)]
theorem mul_bd {n m : Int} (hn : -1000000000000000000 ≤ n ∧ n ≤ 1000000000000000000) (hm : -1000000000000000000 ≤ m ∧ m ≤ 1000000000000000000) :
    -1000000000000000000000000000000000000 ≤ n * m ∧ n * m ≤ 1000000000000000000000000000000000000 := by
  have h : (n * m).natAbs ≤ 1000000000000000000 * 1000000000000000000 := by
    rw [Int.natAbs_mul]; exact Nat.mul_le_mul (by omega) (by omega)
  omega
theorem wMul_b (n m : Int) : (wMul n m).1.b := by
  unfold wMul
  split
  · rename_i h
    have := mul_bd ⟨h.1, h.2.1⟩ h.2.2
    exact wIs_b (wOf_is (by omega))
  · simp only [Pt.b, i64b]; omega
theorem wsign (n : Int) : wCmp (wOf n) ⟨0, 0⟩ = if n = 0 then 0 else if n < 0 then -1 else 1 := by
  rw [wCmp_num (wOf_y n) (by simp), wval_wOf]; rfl
/-- a product's side is that of its factors -/
theorem wMul_side {n m : Int} (h : (wMul n m).2 = 0) : wIs (wMul n m).1 = true ∧ wCmp (wMul n m).1 ⟨0, 0⟩ = wCmp (wOf n) ⟨0, 0⟩ * wCmp (wOf m) ⟨0, 0⟩ := by
  have hh : -1000000000000000000 ≤ n ∧ n ≤ 1000000000000000000 ∧ -1000000000000000000 ≤ m ∧ m ≤ 1000000000000000000 := by
    unfold wMul at h
    split at h
    · assumption
    · simp at h
  have e : wMul n m = (wOf (n * m), 0) := by unfold wMul; rw [if_pos hh]
  rw [e]
  have hb := mul_bd ⟨hh.1, hh.2.1⟩ hh.2.2
  refine ⟨wOf_is (by omega), ?_⟩
  simp only
  rw [wsign, wsign, wsign]
  by_cases h1 : n = 0
  · subst h1; simp
  by_cases h2 : m = 0
  · subst h2; simp
  have h3 : n * m ≠ 0 := Int.mul_ne_zero h1 h2
  rw [if_neg h1, if_neg h2, if_neg h3]
  by_cases h4 : n < 0
  · by_cases h5 : m < 0
    · have := Int.mul_pos_of_neg_of_neg h4 h5
      rw [if_pos h4, if_pos h5, if_neg (by omega)]; rfl
    · have := Int.mul_neg_of_neg_of_pos h4 (show 0 < m by omega)
      rw [if_pos h4, if_neg h5, if_pos this]; rfl
  · by_cases h5 : m < 0
    · have := Int.mul_neg_of_pos_of_neg (show 0 < n by omega) h5
      rw [if_neg h4, if_pos h5, if_pos this]; rfl
    · have := Int.mul_pos (show 0 < n by omega) (show 0 < m by omega)
      rw [if_neg h4, if_neg h5, if_neg (by omega)]; rfl
theorem wless (n m : Int) : (decide (n < m) == decide (wCmp (wOf n) (wOf m) < 0)) = true := by
  rw [wCmp_num (wOf_y n) (wOf_y m), wval_wOf, wval_wOf]
  by_cases h : n = m
  · subst h; simp
  · rw [if_neg h]
    by_cases h2 : n < m
    · rw [if_pos h2]; simp [h2]
    · rw [if_neg h2]; simp [h2]

set_option maxHeartbeats 6400000 in
theorem wideorder_any (a b c : Pt) (n m : Int) (w : World) (ha : a.b) (hb : b.b) (hc : c.b) (hn : i64b n) (hm : i64b m) (hT : TabB w) : Calls Tryd.prog 7 #[ptV a, ptV b, ptV c, .int .i64 n, .int .i64 m] w (fun e w' => e = .returned (.bool true) ∧ Below w.heap.size w w') := by
  have HCB := Lib.hid (fun h1 h2 => wCmp_both (a := a) (b := b) (c := c) h1 h2)
  have HSD := Lib.hid (fun h => wMul_side (n := n) (m := m) h)
  have T1 := Lib.hid (fun W hW => widened_any W hW)
  have T2 := Lib.hid (fun W => of_any 0 W (by unfold i64b; omega))
  rw [show wOf 0 = ⟨0, 0⟩ by decide] at T2
  have KA := Lib.hid (fun W g hg => add2_any a c ha hc W g hg)
  have KB := Lib.hid (fun W g hg => add2_any b c hb hc W g hg)
  have KC := Lib.hid (fun W => wcmp_any (wAdd [a, c]).1 (wAdd [b, c]).1 W (wAdd_b a c) (wAdd_b b c))
  have KD := Lib.hid (fun W => wcmp_any a b W ha hb)
  have KE := Lib.hid (fun W => wcmp_any b a W hb ha)
  have KF := Lib.hid (fun W => wmul_any n m W hn hm)
  have KG := Lib.hid (fun W => wmul_any m n W hm hn)
  have KN := Lib.hid (fun W => of_any n W hn)
  have KM := Lib.hid (fun W => of_any m W hm)
  have KN0 := Lib.hid (fun W => wcmp_any (wOf n) ⟨0, 0⟩ W (wOf_b' hn) (by simp [Pt.b, i64b]))
  have KM0 := Lib.hid (fun W => wcmp_any (wOf m) ⟨0, 0⟩ W (wOf_b' hm) (by simp [Pt.b, i64b]))
  have KP0 := Lib.hid (fun W => wcmp_any (wMul n m).1 ⟨0, 0⟩ W (wMul_b n m) (by simp [Pt.b, i64b]))
  have KPI := Lib.hid (fun W => is_any (wMul n m).1 W (wMul_b n m))
  have KNM := Lib.hid (fun W => wcmp_any (wOf n) (wOf m) W (wOf_b' hn) (wOf_b' hm))
  have KMN := Lib.hid (fun W => wcmp_any (wOf m) (wOf n) W (wOf_b' hm) (wOf_b' hn))
  have HL := Lib.hid (wless n m)
  rw [wMul_comm m n] at KG
  rw [wCmp_anti a b] at KE
  rw [wCmp_anti (wOf n) (wOf m)] at KMN
  have t1 := wCmp_three a b
  have t2 := wCmp_three (wOf n) (wOf m)
  have t3 := wCmp_three (wOf n) ⟨0, 0⟩
  have t4 := wCmp_three (wOf m) ⟨0, 0⟩
  obtain ⟨kd, hkd⟩ : ∃ k, wCmp a b = k := ⟨_, rfl⟩
  rw [hkd] at KD KE HCB t1
  obtain ⟨kn, hkn⟩ : ∃ k, wCmp (wOf n) ⟨0, 0⟩ = k := ⟨_, rfl⟩
  obtain ⟨km, hkm⟩ : ∃ k, wCmp (wOf m) ⟨0, 0⟩ = k := ⟨_, rfl⟩
  obtain ⟨kk, hkk⟩ : ∃ k, wCmp (wOf n) (wOf m) = k := ⟨_, rfl⟩
  rw [hkn] at KN0 HSD t3
  rw [hkm] at KM0 HSD t4
  rw [hkk] at KNM KMN HL t2
  obtain ⟨kc, hkc⟩ : ∃ k, wCmp (wAdd [a, c]).1 (wAdd [b, c]).1 = k := ⟨_, rfl⟩
  rw [hkc] at KC HCB
  obtain ⟨kp, hkp⟩ : ∃ k, wCmp (wMul n m).1 ⟨0, 0⟩ = k := ⟨_, rfl⟩
  rw [hkp] at KP0 HSD
  obtain ⟨ki, hki⟩ : ∃ k, wIs (wMul n m).1 = k := ⟨_, rfl⟩
  rw [hki] at KPI HSD
  obtain ⟨⟨⟨x1, x2⟩, ee⟩, he⟩ : ∃ r, wAdd [a, c] = r := ⟨_, rfl⟩
  obtain ⟨⟨⟨y1, y2⟩, ef⟩, hf⟩ : ∃ r, wAdd [b, c] = r := ⟨_, rfl⟩
  obtain ⟨⟨⟨p1, p2⟩, eg⟩, hg⟩ : ∃ r, wMul n m = r := ⟨_, rfl⟩
  obtain ⟨⟨u1, u2⟩, hu⟩ : ∃ r, wOf n = r := ⟨_, rfl⟩
  obtain ⟨⟨v1, v2⟩, hv⟩ : ∃ r, wOf m = r := ⟨_, rfl⟩
  rw [he] at KA KC HCB
  rw [hf] at KB KC HCB
  rw [hg] at KF KG KP0 KPI HSD
  rw [hu] at KN KN0 KNM KMN
  rw [hv] at KM KM0 KNM KMN
  clear he hf hg hu hv hkd hkn hkm hkk hkc hkp hki
  obtain ⟨a1, a2⟩ := a
  obtain ⟨b1, b2⟩ := b
  obtain ⟨c1, c2⟩ := c
  unfold PE ptV at *
  simp only at KA KB KC KD KE KF KG KN KM KN0 KM0 KP0 KPI KNM KMN T2 HCB HSD
  have HTB := Lib.hid hT; clear hT ha hb hc hn hm
  have wd : IntKind.i64.wrap (kd + -kd) = 0 := by rw [Int.add_right_neg]; rfl
  have wk : IntKind.i64.wrap (kk + -kk) = 0 := by rw [Int.add_right_neg]; rfl
  obtain ⟨sd, hsd⟩ : ∃ s, kn * km = s := ⟨_, rfl⟩
  have ws : IntKind.i64.wrap (kn * km) = sd := by
    rw [hsd]; refine IntWalk.i64_in _ ?_
    rw [← hsd]; rcases t3 with h | h | h <;> rcases t4 with h2 | h2 | h2 <;> rw [h, h2] <;> decide
  rw [hsd] at HSD
  have HWS := Lib.hid ws; clear ws hsd
  have HWD := Lib.hid wd; clear wd
  have HWK := Lib.hid wk; clear wk
  have hkd : -1 ≤ kd ∧ kd ≤ 1 := by omega
  have hkk : -1 ≤ kk ∧ kk ≤ 1 := by omega
  have hkn : -1 ≤ kn ∧ kn ≤ 1 := by omega
  have hkm : -1 ≤ km ∧ km ≤ 1 := by omega
  clear t1 t2 t3 t4
  obtain ⟨s1, s2, s3, hb0, hz0⟩ := three_slots w [.int .i64 a1, .int .i64 a2] [.int .i64 b1, .int .i64 b2] [.int .i64 c1, .int .i64 c2] #[.int .i64 a1, .int .i64 a2] #[.int .i64 b1, .int .i64 b2] #[.int .i64 c1, .int .i64 c2] 23 23 23 rfl rfl rfl
  go_enter Tryd.func7, Tryd.ntmps7
  go_wp2_with fail
  generalize ((w.alloc (.cells #[.int .i64 a1, .int .i64 a2] 23)).alloc (.cells #[.int .i64 b1, .int .i64 b2] 23)).alloc (.cells #[.int .i64 c1, .int .i64 c2] 23) = V0 at s1 s2 s3 hb0 hz0 ⊢
  have Ha := Lib.hid s1; have Hb := Lib.hid s2
  have Hc := Lib.hid s3
  clear s1 s2 s3
  have HB := Lib.hid hb0; clear hb0
  refine (KA.out V0 _ hz0).mono ?_
  clear KA
  rintro e w1 ⟨rfl, bb⟩
  have Ha := Lib.hid (Ha.out.below bb (by omega))
  have Hb := Lib.hid (Hb.out.below bb (by omega))
  have Hc := Lib.hid (Hc.out.below bb (by omega))
  have HB := Lib.hid (HB.out.trans (bb.mono HB.out.size))
  have hzw1 := bb.size
  clear bb
  obtain ⟨s1, hb1, hz1⟩ := one_slot w1 [.int .i64 x1, .int .i64 x2] #[.int .i64 x1, .int .i64 x2] 23 rfl
  have lb : w.heap.size + 1 < w1.heap.size := by omega
  have cb0 := Hb.out.c 0 _ rfl
  have cb1 := Hb.out.c 1 _ rfl
  have lc : w.heap.size + 1 + 1 < w1.heap.size := by omega
  have cc0 := Hc.out.c 0 _ rfl
  have cc1 := Hc.out.c 1 _ rfl
  go_wp2_with fail
  generalize w1.alloc (.cells #[.int .i64 x1, .int .i64 x2] 23) = V2 at s1 hb1 hz1 ⊢
  have Ha := Lib.hid (Ha.out.below hb1 (by omega))
  have Hb := Lib.hid (Hb.out.below hb1 (by omega))
  have Hc := Lib.hid (Hc.out.below hb1 (by omega))
  have Hx := Lib.hid s1
  have HB := Lib.hid (HB.out.trans (hb1.mono HB.out.size))
  clear s1 hb1
  have hzV2 := hz1; clear hz1
  clear cb0 cb1 cc0 cc1
  refine (KB.out V2 _ hzV2).mono ?_
  clear KB
  rintro e w3 ⟨rfl, bb⟩
  have Ha := Lib.hid (Ha.out.below bb (by omega))
  have Hb := Lib.hid (Hb.out.below bb (by omega))
  have Hc := Lib.hid (Hc.out.below bb (by omega))
  have Hx := Lib.hid (Hx.out.below bb (by omega))
  have HB := Lib.hid (HB.out.trans (bb.mono HB.out.size))
  have hzw3 := bb.size
  clear bb
  obtain ⟨s1, hb1, hz1⟩ := one_slot w3 [.int .i64 y1, .int .i64 y2] #[.int .i64 y1, .int .i64 y2] 23 rfl
  go_upto_region 3 with fail
  generalize w3.alloc (.cells #[.int .i64 y1, .int .i64 y2] 23) = V4 at s1 hb1 hz1 ⊢
  have Ha := Lib.hid (Ha.out.below hb1 (by omega))
  have Hb := Lib.hid (Hb.out.below hb1 (by omega))
  have Hc := Lib.hid (Hc.out.below hb1 (by omega))
  have Hx := Lib.hid (Hx.out.below hb1 (by omega))
  have Hy := Lib.hid s1
  have HB := Lib.hid (HB.out.trans (hb1.mono HB.out.size))
  clear s1 hb1
  have hzV4 := hz1; clear hz1
  have lx : w1.heap.size < V4.heap.size := by omega
  have cx0 := Hx.out.c 0 _ rfl
  have cx1 := Hx.out.c 1 _ rfl
  have ly : w3.heap.size < V4.heap.size := by omega
  have cy0 := Hy.out.c 0 _ rfl
  have cy1 := Hy.out.c 1 _ rfl
  have la : w.heap.size < V4.heap.size := by omega
  have ca0 := Ha.out.c 0 _ rfl
  have ca1 := Ha.out.c 1 _ rfl
  have lb : w.heap.size + 1 < V4.heap.size := by omega
  have cb0 := Hb.out.c 0 _ rfl
  have cb1 := Hb.out.c 1 _ rfl
  go_cut [49] (fun s49 wx => s49 = .bool false ∧ Below V4.heap.size V4 wx)
  case first =>
    by_cases d_ee : ee = 0
    case neg =>
      have q_ee : (ee == 0) = false := by simpa using d_ee
      refine wp_region_held_drew (S := fun _ => True) (by kernel_rfl) ?_ (fun hHeld => ?_)
      · trivial
      refine wpAnyH_takeD 0 (d := (some 35)) (v := ?_) rfl rfl (by kernel_rfl) (by kernel_rfl) (by kernel_rfl) (by kernel_rfl) (fun _ _ _ h => h) ?_ (by assumption) ?_
      rotate_left
      · intro ww hSw; (try dsimp only at hSw); first | (go_simp; done) | (go_simp; with_reducible rfl)
      simp only [Act.put, List.setIfInBounds_toArray, List.set_cons_zero, List.set_cons_succ]
      refine wpAnyH_takeD 1 (d := (some 36)) (v := ?_) rfl rfl (by kernel_rfl) (by kernel_rfl) (by kernel_rfl) (by kernel_rfl) (fun _ _ _ h => h) ?_ (by assumption) ?_
      rotate_left
      · intro ww hSw; (try dsimp only at hSw); first | (go_simp; done) | (go_simp; with_reducible rfl)
      simp only [Act.put, List.setIfInBounds_toArray, List.set_cons_zero, List.set_cons_succ]
      refine wpAnyH_takeD 2 (d := (some 37)) (v := ?_) rfl rfl (by kernel_rfl) (by kernel_rfl) (by kernel_rfl) (by kernel_rfl) (fun _ _ _ h => h) ?_ (by assumption) ?_
      rotate_left
      · intro ww hSw; (try dsimp only at hSw); first | (go_simp; done) | (go_simp; with_reducible rfl)
      simp only [Act.put, List.setIfInBounds_toArray, List.set_cons_zero, List.set_cons_succ]
      refine wpAnyH_skip 3 (d := (some 38)) (by kernel_rfl) (by kernel_rfl) (by kernel_rfl) (by kernel_rfl) (fun _ _ _ h => h) (by assumption) ?_
      simp only [Act.put, List.setIfInBounds_toArray, List.set_cons_zero, List.set_cons_succ]
      refine wpAnyH_skip 4 (d := (some 39)) (by kernel_rfl) (by kernel_rfl) (by kernel_rfl) (by kernel_rfl) (fun _ _ _ h => h) (by assumption) ?_
      simp only [Act.put, List.setIfInBounds_toArray, List.set_cons_zero, List.set_cons_succ]
      refine wpAnyH_takeD 5 (d := (some 40)) (v := ?_) rfl rfl (by kernel_rfl) (by kernel_rfl) (by kernel_rfl) (by kernel_rfl) (fun _ _ _ h => h) ?_ (by assumption) ?_
      rotate_left
      · intro ww hSw; (try dsimp only at hSw); first | (go_simp; done) | (go_simp; with_reducible rfl)
      simp only [Act.put, List.setIfInBounds_toArray, List.set_cons_zero, List.set_cons_succ]
      refine wpAnyH_takeD 6 (d := (some 41)) (v := ?_) rfl rfl (by kernel_rfl) (by kernel_rfl) (by kernel_rfl) (by kernel_rfl) (fun _ _ _ h => h) ?_ (by assumption) ?_
      rotate_left
      · intro ww hSw; (try dsimp only at hSw); first | (go_simp; done) | (go_simp; with_reducible rfl)
      simp only [Act.put, List.setIfInBounds_toArray, List.set_cons_zero, List.set_cons_succ]
      refine wpAnyH_skip 7 (d := (some 42)) (by kernel_rfl) (by kernel_rfl) (by kernel_rfl) (by kernel_rfl) (fun _ _ _ h => h) (by assumption) ?_
      simp only [Act.put, List.setIfInBounds_toArray, List.set_cons_zero, List.set_cons_succ]
      refine wpAnyH_skip 8 (d := (some 43)) (by kernel_rfl) (by kernel_rfl) (by kernel_rfl) (by kernel_rfl) (fun _ _ _ h => h) (by assumption) ?_
      simp only [Act.put, List.setIfInBounds_toArray, List.set_cons_zero, List.set_cons_succ]
      refine wpAnyH_skip 9 (d := (some 44)) (by kernel_rfl) (by kernel_rfl) (by kernel_rfl) (by kernel_rfl) (fun _ _ _ h => h) (by assumption) ?_
      simp only [Act.put, List.setIfInBounds_toArray, List.set_cons_zero, List.set_cons_succ]
      refine wpAnyH_skip 10 (d := (some 45)) (by kernel_rfl) (by kernel_rfl) (by kernel_rfl) (by kernel_rfl) (fun _ _ _ h => h) (by assumption) ?_
      simp only [Act.put, List.setIfInBounds_toArray, List.set_cons_zero, List.set_cons_succ]
      refine wpAnyH_skip 11 (d := (some 46)) (by kernel_rfl) (by kernel_rfl) (by kernel_rfl) (by kernel_rfl) (fun _ _ _ h => h) (by assumption) ?_
      simp only [Act.put, List.setIfInBounds_toArray, List.set_cons_zero, List.set_cons_succ]
      refine wpAnyH_skip 12 (d := (some 47)) (by kernel_rfl) (by kernel_rfl) (by kernel_rfl) (by kernel_rfl) (fun _ _ _ h => h) (by assumption) ?_
      simp only [Act.put, List.setIfInBounds_toArray, List.set_cons_zero, List.set_cons_succ]
      refine wpAnyH_skip 13 (d := (some 48)) (by kernel_rfl) (by kernel_rfl) (by kernel_rfl) (by kernel_rfl) (fun _ _ _ h => h) (by assumption) ?_
      simp only [Act.put, List.setIfInBounds_toArray, List.set_cons_zero, List.set_cons_succ]
      refine wpAnyH_takeD 14 (d := (some 49)) (v := ?_) rfl rfl (by kernel_rfl) (by kernel_rfl) (by kernel_rfl) (by kernel_rfl) (fun _ _ _ h => h) ?_ (by assumption) ?_
      rotate_left
      · intro ww hSw; (try dsimp only at hSw); first | (go_simp; done) | (go_simp; with_reducible rfl)
      simp only [Act.put, List.setIfInBounds_toArray, List.set_cons_zero, List.set_cons_succ]
      refine wpAnyH_done (by kernel_rfl) ?_ _
      go_wp2_with fail
      go_meet
      exact ⟨rfl, (Below.refl _ _).drew⟩
    have q_ee : (ee == 0) = true := by simpa using d_ee
    by_cases d_ef : ef = 0
    case neg =>
      have q_ef : (ef == 0) = false := by simpa using d_ef
      refine wp_region_held_drew (S := fun _ => True) (by kernel_rfl) ?_ (fun hHeld => ?_)
      · trivial
      refine wpAnyH_takeD 0 (d := (some 35)) (v := ?_) rfl rfl (by kernel_rfl) (by kernel_rfl) (by kernel_rfl) (by kernel_rfl) (fun _ _ _ h => h) ?_ (by assumption) ?_
      rotate_left
      · intro ww hSw; (try dsimp only at hSw); first | (go_simp; done) | (go_simp; with_reducible rfl)
      simp only [Act.put, List.setIfInBounds_toArray, List.set_cons_zero, List.set_cons_succ]
      refine wpAnyH_takeD 1 (d := (some 36)) (v := ?_) rfl rfl (by kernel_rfl) (by kernel_rfl) (by kernel_rfl) (by kernel_rfl) (fun _ _ _ h => h) ?_ (by assumption) ?_
      rotate_left
      · intro ww hSw; (try dsimp only at hSw); first | (go_simp; done) | (go_simp; with_reducible rfl)
      simp only [Act.put, List.setIfInBounds_toArray, List.set_cons_zero, List.set_cons_succ]
      refine wpAnyH_takeD 2 (d := (some 37)) (v := ?_) rfl rfl (by kernel_rfl) (by kernel_rfl) (by kernel_rfl) (by kernel_rfl) (fun _ _ _ h => h) ?_ (by assumption) ?_
      rotate_left
      · intro ww hSw; (try dsimp only at hSw); first | (go_simp; done) | (go_simp; with_reducible rfl)
      simp only [Act.put, List.setIfInBounds_toArray, List.set_cons_zero, List.set_cons_succ]
      refine wpAnyH_takeD 3 (d := (some 38)) (v := ?_) rfl rfl (by kernel_rfl) (by kernel_rfl) (by kernel_rfl) (by kernel_rfl) (fun _ _ _ h => h) ?_ (by assumption) ?_
      rotate_left
      · intro ww hSw; (try dsimp only at hSw); first | (go_simp; done) | (go_simp; with_reducible rfl)
      simp only [Act.put, List.setIfInBounds_toArray, List.set_cons_zero, List.set_cons_succ]
      refine wpAnyH_takeD 4 (d := (some 39)) (v := ?_) rfl rfl (by kernel_rfl) (by kernel_rfl) (by kernel_rfl) (by kernel_rfl) (fun _ _ _ h => h) ?_ (by assumption) ?_
      rotate_left
      · intro ww hSw; (try dsimp only at hSw); first | (go_simp; done) | (go_simp; with_reducible rfl)
      simp only [Act.put, List.setIfInBounds_toArray, List.set_cons_zero, List.set_cons_succ]
      refine wpAnyH_takeD 5 (d := (some 40)) (v := ?_) rfl rfl (by kernel_rfl) (by kernel_rfl) (by kernel_rfl) (by kernel_rfl) (fun _ _ _ h => h) ?_ (by assumption) ?_
      rotate_left
      · intro ww hSw; (try dsimp only at hSw); first | (go_simp; done) | (go_simp; with_reducible rfl)
      simp only [Act.put, List.setIfInBounds_toArray, List.set_cons_zero, List.set_cons_succ]
      refine wpAnyH_takeD 6 (d := (some 41)) (v := ?_) rfl rfl (by kernel_rfl) (by kernel_rfl) (by kernel_rfl) (by kernel_rfl) (fun _ _ _ h => h) ?_ (by assumption) ?_
      rotate_left
      · intro ww hSw; (try dsimp only at hSw); first | (go_simp; done) | (go_simp; with_reducible rfl)
      simp only [Act.put, List.setIfInBounds_toArray, List.set_cons_zero, List.set_cons_succ]
      refine wpAnyH_skip 7 (d := (some 42)) (by kernel_rfl) (by kernel_rfl) (by kernel_rfl) (by kernel_rfl) (fun _ _ _ h => h) (by assumption) ?_
      simp only [Act.put, List.setIfInBounds_toArray, List.set_cons_zero, List.set_cons_succ]
      refine wpAnyH_skip 8 (d := (some 43)) (by kernel_rfl) (by kernel_rfl) (by kernel_rfl) (by kernel_rfl) (fun _ _ _ h => h) (by assumption) ?_
      simp only [Act.put, List.setIfInBounds_toArray, List.set_cons_zero, List.set_cons_succ]
      refine wpAnyH_skip 9 (d := (some 44)) (by kernel_rfl) (by kernel_rfl) (by kernel_rfl) (by kernel_rfl) (fun _ _ _ h => h) (by assumption) ?_
      simp only [Act.put, List.setIfInBounds_toArray, List.set_cons_zero, List.set_cons_succ]
      refine wpAnyH_skip 10 (d := (some 45)) (by kernel_rfl) (by kernel_rfl) (by kernel_rfl) (by kernel_rfl) (fun _ _ _ h => h) (by assumption) ?_
      simp only [Act.put, List.setIfInBounds_toArray, List.set_cons_zero, List.set_cons_succ]
      refine wpAnyH_skip 11 (d := (some 46)) (by kernel_rfl) (by kernel_rfl) (by kernel_rfl) (by kernel_rfl) (fun _ _ _ h => h) (by assumption) ?_
      simp only [Act.put, List.setIfInBounds_toArray, List.set_cons_zero, List.set_cons_succ]
      refine wpAnyH_skip 12 (d := (some 47)) (by kernel_rfl) (by kernel_rfl) (by kernel_rfl) (by kernel_rfl) (fun _ _ _ h => h) (by assumption) ?_
      simp only [Act.put, List.setIfInBounds_toArray, List.set_cons_zero, List.set_cons_succ]
      refine wpAnyH_skip 13 (d := (some 48)) (by kernel_rfl) (by kernel_rfl) (by kernel_rfl) (by kernel_rfl) (fun _ _ _ h => h) (by assumption) ?_
      simp only [Act.put, List.setIfInBounds_toArray, List.set_cons_zero, List.set_cons_succ]
      refine wpAnyH_takeD 14 (d := (some 49)) (v := ?_) rfl rfl (by kernel_rfl) (by kernel_rfl) (by kernel_rfl) (by kernel_rfl) (fun _ _ _ h => h) ?_ (by assumption) ?_
      rotate_left
      · intro ww hSw; (try dsimp only at hSw); first | (go_simp; done) | (go_simp; with_reducible rfl)
      simp only [Act.put, List.setIfInBounds_toArray, List.set_cons_zero, List.set_cons_succ]
      refine wpAnyH_done (by kernel_rfl) ?_ _
      go_wp2_with fail
      go_meet
      exact ⟨rfl, (Below.refl _ _).drew⟩
    have q_ef : (ef == 0) = true := by simpa using d_ef
    have hkc := HCB.out d_ee d_ef
    subst hkc
    clear d_ee d_ef HCB
    go_region_held3 (fun w' => w'.cell? ⟨w1.heap.size, 0, none⟩ = some (.int .i64 x1) ∧ w'.cell? ⟨w1.heap.size, 1, none⟩ = some (.int .i64 x2) ∧ w'.cell? ⟨w3.heap.size, 0, none⟩ = some (.int .i64 y1) ∧ w'.cell? ⟨w3.heap.size, 1, none⟩ = some (.int .i64 y2) ∧ w'.cell? ⟨w.heap.size, 0, none⟩ = some (.int .i64 a1) ∧ w'.cell? ⟨w.heap.size, 1, none⟩ = some (.int .i64 a2) ∧ w'.cell? ⟨w.heap.size + 1, 0, none⟩ = some (.int .i64 b1) ∧ w'.cell? ⟨w.heap.size + 1, 1, none⟩ = some (.int .i64 b2))
      (refine ⟨?_, ?_, ?_, ?_, ?_, ?_, ?_, ?_⟩ <;> (first | with_reducible assumption | (rw [hby.cell (by (try dsimp only); omega)]; with_reducible assumption) | (go_keep; done)))
      (first
        | (go_at_call 14; refine (KC.out _).mono ?_; clear KC; rintro e wx ⟨rfl, hbx⟩; have hby : Below V4.heap.size V4 wx := (Below.refl _ V4).drew.trans (hbx.mono (by simp)))
        | (go_at_call 14; refine (KD.out _).mono ?_; clear KD; rintro e wx ⟨rfl, hbx⟩; have hby : Below V4.heap.size V4 wx := hby.trans (hbx.mono hby.size)))
    go_wp2_with fail
    go_meet
    exact ⟨rfl, hby⟩
  case rest =>
    obtain ⟨rfl, hbc⟩ := hcut
    clear cx0 cx1 cy0 cy1 ca0 ca1 cb0 cb1
    have Ha := Lib.hid (Ha.out.below hbc (by omega))
    have Hb := Lib.hid (Hb.out.below hbc (by omega))
    have Hc := Lib.hid (Hc.out.below hbc (by omega))
    have Hx := Lib.hid (Hx.out.below hbc (by omega))
    have Hy := Lib.hid (Hy.out.below hbc (by omega))
    have HB := Lib.hid (HB.out.trans (hbc.mono HB.out.size))
    have hzwc := hbc.size
    clear hbc
    go_wp2_with fail
    refine (KF.out _).mono ?_
    clear KF
    rintro e w5 ⟨rfl, bb⟩
    have Ha := Lib.hid (Ha.out.below bb (by omega))
    have Hb := Lib.hid (Hb.out.below bb (by omega))
    have Hc := Lib.hid (Hc.out.below bb (by omega))
    have Hx := Lib.hid (Hx.out.below bb (by omega))
    have Hy := Lib.hid (Hy.out.below bb (by omega))
    have HB := Lib.hid (HB.out.trans (bb.mono HB.out.size))
    have hzw5 := bb.size
    clear bb
    obtain ⟨s1, hb1, hz1⟩ := one_slot w5 [.int .i64 p1, .int .i64 p2] #[.int .i64 p1, .int .i64 p2] 23 rfl
    go_wp2_with fail
    generalize w5.alloc (.cells #[.int .i64 p1, .int .i64 p2] 23) = V6 at s1 hb1 hz1 ⊢
    have Ha := Lib.hid (Ha.out.below hb1 (by omega))
    have Hb := Lib.hid (Hb.out.below hb1 (by omega))
    have Hc := Lib.hid (Hc.out.below hb1 (by omega))
    have Hx := Lib.hid (Hx.out.below hb1 (by omega))
    have Hy := Lib.hid (Hy.out.below hb1 (by omega))
    have Hp := Lib.hid s1
    have HB := Lib.hid (HB.out.trans (hb1.mono HB.out.size))
    clear s1 hb1
    have hzV6 := hz1; clear hz1
    refine (KG.out _).mono ?_
    clear KG
    rintro e w7 ⟨rfl, bb⟩
    have Ha := Lib.hid (Ha.out.below bb (by omega))
    have Hb := Lib.hid (Hb.out.below bb (by omega))
    have Hc := Lib.hid (Hc.out.below bb (by omega))
    have Hx := Lib.hid (Hx.out.below bb (by omega))
    have Hy := Lib.hid (Hy.out.below bb (by omega))
    have Hp := Lib.hid (Hp.out.below bb (by omega))
    have HB := Lib.hid (HB.out.trans (bb.mono HB.out.size))
    have hzw7 := bb.size
    clear bb
    obtain ⟨s1, hb1, hz1⟩ := one_slot w7 [.int .i64 p1, .int .i64 p2] #[.int .i64 p1, .int .i64 p2] 23 rfl
    go_upto_region 7 with fail
    generalize w7.alloc (.cells #[.int .i64 p1, .int .i64 p2] 23) = V8 at s1 hb1 hz1 ⊢
    have Ha := Lib.hid (Ha.out.below hb1 (by omega))
    have Hb := Lib.hid (Hb.out.below hb1 (by omega))
    have Hc := Lib.hid (Hc.out.below hb1 (by omega))
    have Hx := Lib.hid (Hx.out.below hb1 (by omega))
    have Hy := Lib.hid (Hy.out.below hb1 (by omega))
    have Hp := Lib.hid (Hp.out.below hb1 (by omega))
    have Hq := Lib.hid s1
    have HB := Lib.hid (HB.out.trans (hb1.mono HB.out.size))
    clear s1 hb1
    have hzV8 := hz1; clear hz1
    have lp : w5.heap.size < V8.heap.size := by omega
    have cp0 := Hp.out.c 0 _ rfl
    have cp1 := Hp.out.c 1 _ rfl
    have lq : w7.heap.size < V8.heap.size := by omega
    have cq0 := Hq.out.c 0 _ rfl
    have cq1 := Hq.out.c 1 _ rfl
    have la : w.heap.size < V8.heap.size := by omega
    have ca0 := Ha.out.c 0 _ rfl
    have ca1 := Ha.out.c 1 _ rfl
    have lb : w.heap.size + 1 < V8.heap.size := by omega
    have cb0 := Hb.out.c 0 _ rfl
    have cb1 := Hb.out.c 1 _ rfl
    have wd := HWD.out
    go_region_held3 (fun w' => w'.cell? ⟨w5.heap.size, 0, none⟩ = some (.int .i64 p1) ∧ w'.cell? ⟨w5.heap.size, 1, none⟩ = some (.int .i64 p2) ∧ w'.cell? ⟨w7.heap.size, 0, none⟩ = some (.int .i64 p1) ∧ w'.cell? ⟨w7.heap.size, 1, none⟩ = some (.int .i64 p2) ∧ w'.cell? ⟨w.heap.size, 0, none⟩ = some (.int .i64 a1) ∧ w'.cell? ⟨w.heap.size, 1, none⟩ = some (.int .i64 a2) ∧ w'.cell? ⟨w.heap.size + 1, 0, none⟩ = some (.int .i64 b1) ∧ w'.cell? ⟨w.heap.size + 1, 1, none⟩ = some (.int .i64 b2))
      (refine ⟨?_, ?_, ?_, ?_, ?_, ?_, ?_, ?_⟩ <;> (first | with_reducible assumption | (rw [hby.cell (by (try dsimp only); omega)]; with_reducible assumption) | (go_keep; done)))
      (first
        | (go_at_call 14; refine (KD.out _).mono ?_; clear KD; rintro e wx ⟨rfl, hbx⟩; have hby : Below V8.heap.size V8 wx := (Below.refl _ V8).drew.trans (hbx.mono (by simp)))
        | (go_at_call 14; refine (KE.out _).mono ?_; clear KE; rintro e wx ⟨rfl, hbx⟩; have hby : Below V8.heap.size V8 wx := hby.trans (hbx.mono hby.size)))
    clear wd
    clear cp0 cp1 cq0 cq1 ca0 ca1 cb0 cb1
    have Ha := Lib.hid (Ha.out.below hby (by omega))
    have Hb := Lib.hid (Hb.out.below hby (by omega))
    have Hc := Lib.hid (Hc.out.below hby (by omega))
    have Hx := Lib.hid (Hx.out.below hby (by omega))
    have Hy := Lib.hid (Hy.out.below hby (by omega))
    have Hp := Lib.hid (Hp.out.below hby (by omega))
    have Hq := Lib.hid (Hq.out.below hby (by omega))
    have HB := Lib.hid (HB.out.trans (hby.mono HB.out.size))
    have hzr7 := hby.size
    clear hby
    go_wp2_with fail
    refine (T2.out _).mono ?_
    rintro e w9 ⟨rfl, bb⟩
    have Ha := Lib.hid (Ha.out.below bb (by omega))
    have Hb := Lib.hid (Hb.out.below bb (by omega))
    have Hc := Lib.hid (Hc.out.below bb (by omega))
    have Hx := Lib.hid (Hx.out.below bb (by omega))
    have Hy := Lib.hid (Hy.out.below bb (by omega))
    have Hp := Lib.hid (Hp.out.below bb (by omega))
    have Hq := Lib.hid (Hq.out.below bb (by omega))
    have HB := Lib.hid (HB.out.trans (bb.mono HB.out.size))
    have hzw9 := bb.size
    clear bb
    obtain ⟨s1, hb1, hz1⟩ := one_slot w9 [.int .i64 0, .int .i64 0] #[.int .i64 0, .int .i64 0] 23 rfl
    go_upto_region 10 with fail
    generalize w9.alloc (.cells #[.int .i64 0, .int .i64 0] 23) = V10 at s1 hb1 hz1 ⊢
    have Ha := Lib.hid (Ha.out.below hb1 (by omega))
    have Hb := Lib.hid (Hb.out.below hb1 (by omega))
    have Hc := Lib.hid (Hc.out.below hb1 (by omega))
    have Hx := Lib.hid (Hx.out.below hb1 (by omega))
    have Hy := Lib.hid (Hy.out.below hb1 (by omega))
    have Hp := Lib.hid (Hp.out.below hb1 (by omega))
    have Hq := Lib.hid (Hq.out.below hb1 (by omega))
    have Hz := Lib.hid s1
    have HB := Lib.hid (HB.out.trans (hb1.mono HB.out.size))
    clear s1 hb1
    have hzV10 := hz1; clear hz1
    have lz : w9.heap.size < V10.heap.size := by omega
    have cz0 := Hz.out.c 0 _ rfl
    have cz1 := Hz.out.c 1 _ rfl
    have ws := HWS.out
    have KN1 := KN; have KM1 := KM
    go_region_held3 (fun w' => w'.cell? ⟨w9.heap.size, 0, none⟩ = some (.int .i64 0) ∧ w'.cell? ⟨w9.heap.size, 1, none⟩ = some (.int .i64 0))
      (refine ⟨?_, ?_⟩ <;> (first | with_reducible assumption | (rw [hby.cell (by (try dsimp only); omega)]; with_reducible assumption) | (go_keep; done)))
      (first
        | (go_at_call 18; refine (KN1.out _).mono ?_; clear KN1; rintro e wx ⟨rfl, hbx⟩; have hby : Below V10.heap.size V10 wx := (Below.refl _ V10).drew.trans (hbx.mono (by simp)))
        | (go_at_call 14; refine (KN0.out _).mono ?_; clear KN0; rintro e wx ⟨rfl, hbx⟩; have hby : Below V10.heap.size V10 wx := hby.trans (hbx.mono hby.size))
        | (go_at_call 18; refine (KM1.out _).mono ?_; clear KM1; rintro e wx ⟨rfl, hbx⟩; have hby : Below V10.heap.size V10 wx := hby.trans (hbx.mono hby.size))
        | (go_at_call 14; refine (KM0.out _).mono ?_; clear KM0; rintro e wx ⟨rfl, hbx⟩; have hby : Below V10.heap.size V10 wx := hby.trans (hbx.mono hby.size)))
    clear ws
    clear cz0 cz1
    have Ha := Lib.hid (Ha.out.below hby (by omega))
    have Hb := Lib.hid (Hb.out.below hby (by omega))
    have Hc := Lib.hid (Hc.out.below hby (by omega))
    have Hx := Lib.hid (Hx.out.below hby (by omega))
    have Hy := Lib.hid (Hy.out.below hby (by omega))
    have Hp := Lib.hid (Hp.out.below hby (by omega))
    have Hq := Lib.hid (Hq.out.below hby (by omega))
    have Hz := Lib.hid (Hz.out.below hby (by omega))
    have HB := Lib.hid (HB.out.trans (hby.mono HB.out.size))
    have hzr10 := hby.size
    clear hby
    go_wp2_with fail
    refine (T1.out wx (HTB.out.on HB.out)).mono ?_
    clear T1
    rintro e w11 ⟨rfl, bb⟩
    have Ha := Lib.hid (Ha.out.below bb (by omega))
    have Hb := Lib.hid (Hb.out.below bb (by omega))
    have Hc := Lib.hid (Hc.out.below bb (by omega))
    have Hx := Lib.hid (Hx.out.below bb (by omega))
    have Hy := Lib.hid (Hy.out.below bb (by omega))
    have Hp := Lib.hid (Hp.out.below bb (by omega))
    have Hq := Lib.hid (Hq.out.below bb (by omega))
    have Hz := Lib.hid (Hz.out.below bb (by omega))
    have HB := Lib.hid (HB.out.trans (bb.mono HB.out.size))
    have hzw11 := bb.size
    clear bb
    by_cases d_eg : eg = 0
    case pos =>
      have q_eg : (eg != 0) = false := by simpa using d_eg
      obtain ⟨hki, hkp⟩ := HSD.out d_eg
      subst hki; subst hkp
      have lp : w5.heap.size < w11.heap.size := by omega
      have cp0 := Hp.out.c 0 _ rfl
      have cp1 := Hp.out.c 1 _ rfl
      have lz : w9.heap.size < w11.heap.size := by omega
      have cz0 := Hz.out.c 0 _ rfl
      have cz1 := Hz.out.c 1 _ rfl
      go_wp2_with fail
      clear cp0 cp1 cz0 cz1
      refine (KP0.out _).mono ?_
      clear KP0
      rintro e w12 ⟨rfl, bb⟩
      have Ha := Lib.hid (Ha.out.below bb (by omega))
      have Hb := Lib.hid (Hb.out.below bb (by omega))
      have Hc := Lib.hid (Hc.out.below bb (by omega))
      have Hx := Lib.hid (Hx.out.below bb (by omega))
      have Hy := Lib.hid (Hy.out.below bb (by omega))
      have Hp := Lib.hid (Hp.out.below bb (by omega))
      have Hq := Lib.hid (Hq.out.below bb (by omega))
      have Hz := Lib.hid (Hz.out.below bb (by omega))
      have HB := Lib.hid (HB.out.trans (bb.mono HB.out.size))
      have hzw12 := bb.size
      clear bb
      have lp : w5.heap.size < w12.heap.size := by omega
      have cp0 := Hp.out.c 0 _ rfl
      have cp1 := Hp.out.c 1 _ rfl
      go_wp2_with fail
      clear cp0 cp1
      refine (KPI.out _).mono ?_
      clear KPI
      rintro e w13 ⟨rfl, bb⟩
      have Ha := Lib.hid (Ha.out.below bb (by omega))
      have Hb := Lib.hid (Hb.out.below bb (by omega))
      have Hc := Lib.hid (Hc.out.below bb (by omega))
      have Hx := Lib.hid (Hx.out.below bb (by omega))
      have Hy := Lib.hid (Hy.out.below bb (by omega))
      have Hp := Lib.hid (Hp.out.below bb (by omega))
      have Hq := Lib.hid (Hq.out.below bb (by omega))
      have Hz := Lib.hid (Hz.out.below bb (by omega))
      have HB := Lib.hid (HB.out.trans (bb.mono HB.out.size))
      have hzw13 := bb.size
      clear bb
      go_wp2_with fail
      refine (KN.out _).mono ?_
      rintro e w14 ⟨rfl, bb⟩
      have Ha := Lib.hid (Ha.out.below bb (by omega))
      have Hb := Lib.hid (Hb.out.below bb (by omega))
      have Hc := Lib.hid (Hc.out.below bb (by omega))
      have Hx := Lib.hid (Hx.out.below bb (by omega))
      have Hy := Lib.hid (Hy.out.below bb (by omega))
      have Hp := Lib.hid (Hp.out.below bb (by omega))
      have Hq := Lib.hid (Hq.out.below bb (by omega))
      have Hz := Lib.hid (Hz.out.below bb (by omega))
      have HB := Lib.hid (HB.out.trans (bb.mono HB.out.size))
      have hzw14 := bb.size
      clear bb
      go_wp2_with fail
      refine (KM.out _).mono ?_
      rintro e w15 ⟨rfl, bb⟩
      have Ha := Lib.hid (Ha.out.below bb (by omega))
      have Hb := Lib.hid (Hb.out.below bb (by omega))
      have Hc := Lib.hid (Hc.out.below bb (by omega))
      have Hx := Lib.hid (Hx.out.below bb (by omega))
      have Hy := Lib.hid (Hy.out.below bb (by omega))
      have Hp := Lib.hid (Hp.out.below bb (by omega))
      have Hq := Lib.hid (Hq.out.below bb (by omega))
      have Hz := Lib.hid (Hz.out.below bb (by omega))
      have HB := Lib.hid (HB.out.trans (bb.mono HB.out.size))
      have hzw15 := bb.size
      clear bb
      go_wp2_with fail
      refine (KNM.out _).mono ?_
      rintro e w16 ⟨rfl, bb⟩
      have Ha := Lib.hid (Ha.out.below bb (by omega))
      have Hb := Lib.hid (Hb.out.below bb (by omega))
      have Hc := Lib.hid (Hc.out.below bb (by omega))
      have Hx := Lib.hid (Hx.out.below bb (by omega))
      have Hy := Lib.hid (Hy.out.below bb (by omega))
      have Hp := Lib.hid (Hp.out.below bb (by omega))
      have Hq := Lib.hid (Hq.out.below bb (by omega))
      have Hz := Lib.hid (Hz.out.below bb (by omega))
      have HB := Lib.hid (HB.out.trans (bb.mono HB.out.size))
      have hzw16 := bb.size
      clear bb
      go_wp2_with fail
      refine (KM.out _).mono ?_
      rintro e w17 ⟨rfl, bb⟩
      have Ha := Lib.hid (Ha.out.below bb (by omega))
      have Hb := Lib.hid (Hb.out.below bb (by omega))
      have Hc := Lib.hid (Hc.out.below bb (by omega))
      have Hx := Lib.hid (Hx.out.below bb (by omega))
      have Hy := Lib.hid (Hy.out.below bb (by omega))
      have Hp := Lib.hid (Hp.out.below bb (by omega))
      have Hq := Lib.hid (Hq.out.below bb (by omega))
      have Hz := Lib.hid (Hz.out.below bb (by omega))
      have HB := Lib.hid (HB.out.trans (bb.mono HB.out.size))
      have hzw17 := bb.size
      clear bb
      go_wp2_with fail
      refine (KN.out _).mono ?_
      rintro e w18 ⟨rfl, bb⟩
      have Ha := Lib.hid (Ha.out.below bb (by omega))
      have Hb := Lib.hid (Hb.out.below bb (by omega))
      have Hc := Lib.hid (Hc.out.below bb (by omega))
      have Hx := Lib.hid (Hx.out.below bb (by omega))
      have Hy := Lib.hid (Hy.out.below bb (by omega))
      have Hp := Lib.hid (Hp.out.below bb (by omega))
      have Hq := Lib.hid (Hq.out.below bb (by omega))
      have Hz := Lib.hid (Hz.out.below bb (by omega))
      have HB := Lib.hid (HB.out.trans (bb.mono HB.out.size))
      have hzw18 := bb.size
      clear bb
      go_wp2_with fail
      refine (KMN.out _).mono ?_
      clear KMN
      rintro e w19 ⟨rfl, bb⟩
      have Ha := Lib.hid (Ha.out.below bb (by omega))
      have Hb := Lib.hid (Hb.out.below bb (by omega))
      have Hc := Lib.hid (Hc.out.below bb (by omega))
      have Hx := Lib.hid (Hx.out.below bb (by omega))
      have Hy := Lib.hid (Hy.out.below bb (by omega))
      have Hp := Lib.hid (Hp.out.below bb (by omega))
      have Hq := Lib.hid (Hq.out.below bb (by omega))
      have Hz := Lib.hid (Hz.out.below bb (by omega))
      have HB := Lib.hid (HB.out.trans (bb.mono HB.out.size))
      have hzw19 := bb.size
      clear bb
      have wk := HWK.out
      have lm := HL.out
      go_wp2_with fail
      refine (KN.out _).mono ?_
      clear KN
      rintro e w20 ⟨rfl, bb⟩
      have Ha := Lib.hid (Ha.out.below bb (by omega))
      have Hb := Lib.hid (Hb.out.below bb (by omega))
      have Hc := Lib.hid (Hc.out.below bb (by omega))
      have Hx := Lib.hid (Hx.out.below bb (by omega))
      have Hy := Lib.hid (Hy.out.below bb (by omega))
      have Hp := Lib.hid (Hp.out.below bb (by omega))
      have Hq := Lib.hid (Hq.out.below bb (by omega))
      have Hz := Lib.hid (Hz.out.below bb (by omega))
      have HB := Lib.hid (HB.out.trans (bb.mono HB.out.size))
      have hzw20 := bb.size
      clear bb
      go_wp2_with fail
      refine (KM.out _).mono ?_
      clear KM
      rintro e w21 ⟨rfl, bb⟩
      have Ha := Lib.hid (Ha.out.below bb (by omega))
      have Hb := Lib.hid (Hb.out.below bb (by omega))
      have Hc := Lib.hid (Hc.out.below bb (by omega))
      have Hx := Lib.hid (Hx.out.below bb (by omega))
      have Hy := Lib.hid (Hy.out.below bb (by omega))
      have Hp := Lib.hid (Hp.out.below bb (by omega))
      have Hq := Lib.hid (Hq.out.below bb (by omega))
      have Hz := Lib.hid (Hz.out.below bb (by omega))
      have HB := Lib.hid (HB.out.trans (bb.mono HB.out.size))
      have hzw21 := bb.size
      clear bb
      go_wp2_with fail
      refine (KNM.out _).mono ?_
      clear KNM
      rintro e w22 ⟨rfl, bb⟩
      have Ha := Lib.hid (Ha.out.below bb (by omega))
      have Hb := Lib.hid (Hb.out.below bb (by omega))
      have Hc := Lib.hid (Hc.out.below bb (by omega))
      have Hx := Lib.hid (Hx.out.below bb (by omega))
      have Hy := Lib.hid (Hy.out.below bb (by omega))
      have Hp := Lib.hid (Hp.out.below bb (by omega))
      have Hq := Lib.hid (Hq.out.below bb (by omega))
      have Hz := Lib.hid (Hz.out.below bb (by omega))
      have HB := Lib.hid (HB.out.trans (bb.mono HB.out.size))
      have hzw22 := bb.size
      clear bb
      go_wp2_with fail
      go_ret
      exact ⟨rfl, HB.out⟩
    have q_eg : (eg != 0) = true := by simpa using d_eg
    go_wp2_with fail
    refine (KN.out _).mono ?_
    rintro e w12 ⟨rfl, bb⟩
    have Ha := Lib.hid (Ha.out.below bb (by omega))
    have Hb := Lib.hid (Hb.out.below bb (by omega))
    have Hc := Lib.hid (Hc.out.below bb (by omega))
    have Hx := Lib.hid (Hx.out.below bb (by omega))
    have Hy := Lib.hid (Hy.out.below bb (by omega))
    have Hp := Lib.hid (Hp.out.below bb (by omega))
    have Hq := Lib.hid (Hq.out.below bb (by omega))
    have Hz := Lib.hid (Hz.out.below bb (by omega))
    have HB := Lib.hid (HB.out.trans (bb.mono HB.out.size))
    have hzw12 := bb.size
    clear bb
    go_wp2_with fail
    refine (KM.out _).mono ?_
    rintro e w13 ⟨rfl, bb⟩
    have Ha := Lib.hid (Ha.out.below bb (by omega))
    have Hb := Lib.hid (Hb.out.below bb (by omega))
    have Hc := Lib.hid (Hc.out.below bb (by omega))
    have Hx := Lib.hid (Hx.out.below bb (by omega))
    have Hy := Lib.hid (Hy.out.below bb (by omega))
    have Hp := Lib.hid (Hp.out.below bb (by omega))
    have Hq := Lib.hid (Hq.out.below bb (by omega))
    have Hz := Lib.hid (Hz.out.below bb (by omega))
    have HB := Lib.hid (HB.out.trans (bb.mono HB.out.size))
    have hzw13 := bb.size
    clear bb
    go_wp2_with fail
    refine (KNM.out _).mono ?_
    rintro e w14 ⟨rfl, bb⟩
    have Ha := Lib.hid (Ha.out.below bb (by omega))
    have Hb := Lib.hid (Hb.out.below bb (by omega))
    have Hc := Lib.hid (Hc.out.below bb (by omega))
    have Hx := Lib.hid (Hx.out.below bb (by omega))
    have Hy := Lib.hid (Hy.out.below bb (by omega))
    have Hp := Lib.hid (Hp.out.below bb (by omega))
    have Hq := Lib.hid (Hq.out.below bb (by omega))
    have Hz := Lib.hid (Hz.out.below bb (by omega))
    have HB := Lib.hid (HB.out.trans (bb.mono HB.out.size))
    have hzw14 := bb.size
    clear bb
    go_wp2_with fail
    refine (KM.out _).mono ?_
    rintro e w15 ⟨rfl, bb⟩
    have Ha := Lib.hid (Ha.out.below bb (by omega))
    have Hb := Lib.hid (Hb.out.below bb (by omega))
    have Hc := Lib.hid (Hc.out.below bb (by omega))
    have Hx := Lib.hid (Hx.out.below bb (by omega))
    have Hy := Lib.hid (Hy.out.below bb (by omega))
    have Hp := Lib.hid (Hp.out.below bb (by omega))
    have Hq := Lib.hid (Hq.out.below bb (by omega))
    have Hz := Lib.hid (Hz.out.below bb (by omega))
    have HB := Lib.hid (HB.out.trans (bb.mono HB.out.size))
    have hzw15 := bb.size
    clear bb
    go_wp2_with fail
    refine (KN.out _).mono ?_
    rintro e w16 ⟨rfl, bb⟩
    have Ha := Lib.hid (Ha.out.below bb (by omega))
    have Hb := Lib.hid (Hb.out.below bb (by omega))
    have Hc := Lib.hid (Hc.out.below bb (by omega))
    have Hx := Lib.hid (Hx.out.below bb (by omega))
    have Hy := Lib.hid (Hy.out.below bb (by omega))
    have Hp := Lib.hid (Hp.out.below bb (by omega))
    have Hq := Lib.hid (Hq.out.below bb (by omega))
    have Hz := Lib.hid (Hz.out.below bb (by omega))
    have HB := Lib.hid (HB.out.trans (bb.mono HB.out.size))
    have hzw16 := bb.size
    clear bb
    go_wp2_with fail
    refine (KMN.out _).mono ?_
    clear KMN
    rintro e w17 ⟨rfl, bb⟩
    have Ha := Lib.hid (Ha.out.below bb (by omega))
    have Hb := Lib.hid (Hb.out.below bb (by omega))
    have Hc := Lib.hid (Hc.out.below bb (by omega))
    have Hx := Lib.hid (Hx.out.below bb (by omega))
    have Hy := Lib.hid (Hy.out.below bb (by omega))
    have Hp := Lib.hid (Hp.out.below bb (by omega))
    have Hq := Lib.hid (Hq.out.below bb (by omega))
    have Hz := Lib.hid (Hz.out.below bb (by omega))
    have HB := Lib.hid (HB.out.trans (bb.mono HB.out.size))
    have hzw17 := bb.size
    clear bb
    have wk := HWK.out
    have lm := HL.out
    go_wp2_with fail
    refine (KN.out _).mono ?_
    clear KN
    rintro e w18 ⟨rfl, bb⟩
    have Ha := Lib.hid (Ha.out.below bb (by omega))
    have Hb := Lib.hid (Hb.out.below bb (by omega))
    have Hc := Lib.hid (Hc.out.below bb (by omega))
    have Hx := Lib.hid (Hx.out.below bb (by omega))
    have Hy := Lib.hid (Hy.out.below bb (by omega))
    have Hp := Lib.hid (Hp.out.below bb (by omega))
    have Hq := Lib.hid (Hq.out.below bb (by omega))
    have Hz := Lib.hid (Hz.out.below bb (by omega))
    have HB := Lib.hid (HB.out.trans (bb.mono HB.out.size))
    have hzw18 := bb.size
    clear bb
    go_wp2_with fail
    refine (KM.out _).mono ?_
    clear KM
    rintro e w19 ⟨rfl, bb⟩
    have Ha := Lib.hid (Ha.out.below bb (by omega))
    have Hb := Lib.hid (Hb.out.below bb (by omega))
    have Hc := Lib.hid (Hc.out.below bb (by omega))
    have Hx := Lib.hid (Hx.out.below bb (by omega))
    have Hy := Lib.hid (Hy.out.below bb (by omega))
    have Hp := Lib.hid (Hp.out.below bb (by omega))
    have Hq := Lib.hid (Hq.out.below bb (by omega))
    have Hz := Lib.hid (Hz.out.below bb (by omega))
    have HB := Lib.hid (HB.out.trans (bb.mono HB.out.size))
    have hzw19 := bb.size
    clear bb
    go_wp2_with fail
    refine (KNM.out _).mono ?_
    clear KNM
    rintro e w20 ⟨rfl, bb⟩
    have Ha := Lib.hid (Ha.out.below bb (by omega))
    have Hb := Lib.hid (Hb.out.below bb (by omega))
    have Hc := Lib.hid (Hc.out.below bb (by omega))
    have Hx := Lib.hid (Hx.out.below bb (by omega))
    have Hy := Lib.hid (Hy.out.below bb (by omega))
    have Hp := Lib.hid (Hp.out.below bb (by omega))
    have Hq := Lib.hid (Hq.out.below bb (by omega))
    have Hz := Lib.hid (Hz.out.below bb (by omega))
    have HB := Lib.hid (HB.out.trans (bb.mono HB.out.size))
    have hzw20 := bb.size
    clear bb
    go_wp2_with fail
    go_ret
    exact ⟨rfl, HB.out⟩
end Go.Proofs.YtcllghcplphijaaDoor
