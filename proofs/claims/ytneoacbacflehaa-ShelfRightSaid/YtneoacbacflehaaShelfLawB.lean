/-
  THE WALKS OF THE LAWS ShelfRight AND ShelfRoom.
-/
import Derived.Test.YtneoacbacflehaaShelfLawA
import Derived.Test.YtneoacbacflehaaShelfLaw
import Derived.Test.YtneoacbacflehaaMix
import Derived.Test.YtneoacbacflehaaLex
set_option linter.unusedVariables false
set_option linter.unusedSimpArgs false
namespace Go.Proofs.Ytneoacbacflehaa
open Go.RowKit

set_option maxRecDepth 100000 in
theorem right_big (A : Option Addr) (n c : Nat) (ww h : Int) (w : World) (hbig : 20 < n ∨ 40 < ww) (hn : n ≤ 9223372036854775807) :
    Calls Try.prog 4 #[.int .i64 ww, .int .i64 h, .slice A n c] w fun e w' => e = .returned (.bool true) ∧ Below w.heap.size w w' := by
  by_cases h1 : 20 < n
  · have d1 : decide ((20 : Int) < (n : Int)) = true := decide_eq_true (by omega)
    go_enter Try.func4, Try.ntmps4
    go_wp2_with fail
    go_ret
    exact ⟨rfl, Below.refl _ _⟩
  · have d1 : decide ((20 : Int) < (n : Int)) = false := decide_eq_false (by omega)
    have d2 : decide (40 < ww) = true := decide_eq_true (by omega)
    go_enter Try.func4, Try.ntmps4
    go_wp2_with fail
    go_ret
    exact ⟨rfl, Below.refl _ _⟩

set_option maxRecDepth 100000 in
/-- the law, where Pack answers an error -/
theorem right_no (A : Option Addr) (n c : Nat) (ps : List Pt) (ww h : Int) (k : Int) (hk : k = 1 ∨ k = 9) (w : World) (hP : Pts w w.heap.size A n ps) (hn : n ≤ 20) (hw : ww ≤ 40) (bw : i64b ww) (bh : i64b h) (hp : packS ww h ps = ([], k)) :
    Calls Try.prog 4 #[.int .i64 ww, .int .i64 h, .slice A n c] w fun e w' => e = .returned (.bool true) ∧ Below w.heap.size w w' := by
  have d1 : decide ((20 : Int) < (n : Int)) = false := decide_eq_false (by omega)
  have d2 : decide (40 < ww) = false := decide_eq_false (by omega)
  have hpk := Lib.hid (pack_as A n c ps ww h w hP (by omega) bw bh hp)
  have HP := Lib.hid hp; clear hp
  rcases hk with rfl | rfl
  all_goals
    go_enter Try.func4, Try.ntmps4
    go_wp2_with fail
    refine hpk.out.mono ?_
    intro e w1 h1
    obtain ⟨A1, c1, rfl, _, hb1⟩ := h1
    simp only [List.length_nil]
    go_wp2_with fail
    refine (shelved_any _).mono ?_
    rintro e w2 ⟨rfl, hb2⟩
    go_wp2_with fail
    go_ret
    exact ⟨rfl, hb1.trans (hb2.mono hb1.size)⟩

set_option maxRecDepth 100000 in
set_option maxHeartbeats 3200000 in
theorem right_yes (A : Option Addr) (n c : Nat) (ps : List Pt) (ww h : Int) (l : List Rc) (sky : List Int) (w : World) (hP : Pts w w.heap.size A n ps) (hn : n ≤ 20) (hw : 1 ≤ ww) (hw' : ww ≤ 40) (hh : 1 ≤ h) (hh' : h ≤ 256)
    (hp : packS ww h ps = (l, 0)) (I : Inv ww.toNat h sky l) (hll : l.length = n) (hsz : ∀ (i : Nat) (p : Pt), ps[i]? = some p → ∃ r, l[i]? = some r ∧ r.w = p.x ∧ r.h = p.y) :
    Calls Try.prog 4 #[.int .i64 ww, .int .i64 h, .slice A n c] w fun e w' => e = .returned (.bool true) ∧ Below w.heap.size w w' := by
  have d1 : decide ((20 : Int) < (n : Int)) = false := decide_eq_false (by omega)
  have d2 : decide (40 < ww) = false := decide_eq_false (by omega)
  have hpk := Lib.hid (pack_as A n c ps ww h w hP (by omega) ⟨by omega, by omega⟩ ⟨by omega, by omega⟩ hp)
  have his := Lib.hid (I.is (w := ww) (by omega))
  have HP := Lib.hid hp; clear hp
  have HS := Lib.hid hsz; clear hsz
  have HL := Lib.hid hll; clear hll
  have hlb : ∀ r ∈ l, r.b := fun r hr => by
    have := I.ins r hr
    exact ⟨⟨by omega, by omega⟩, ⟨by omega, by omega⟩, ⟨by omega, by omega⟩, ⟨by omega, by omega⟩⟩
  have HLB := Lib.hid hlb; clear hlb
  have dnn : ((n : Int) != (n : Int)) = false := by simp
  go_enter Try.func4, Try.ntmps4
  go_wp2_with fail
  refine hpk.out.mono ?_
  intro e w1 h1
  obtain ⟨A1, c1, rfl, hown1, hb1⟩ := h1
  rw [HL.out] at hown1
  simp only [HL.out]
  have hR1 := Rects.of_own hown1 HLB.out (by omega)
  have hnc : n ≤ c1 := by
    rcases hown1.2 with ⟨_, h0⟩ | ⟨g, cap, cur, hv, _, _, hc, _⟩
    · omega
    · injection hv with _ _ h3; omega
  clear hown1
  go_wp2_with fail
  refine (is_any A1 n c1 l ww h w1 hR1 hnc ⟨by omega, by omega⟩ ⟨by omega, by omega⟩).mono ?_
  rintro e w2 ⟨rfl, hb2⟩
  rw [his.out]
  have hR2 := hR1.below hb2 (Nat.le_refl _)
  have hb2' : Below w.heap.size w w2 := hb1.trans (hb2.mono hb1.size)
  have hP2 := hP.below hb2' (Nat.le_refl _)
  clear hR1 hP hb1 hb2
  go_wp2_with fail
  refine wp_loop_mix [(6, 6), (9, 10), (53, 207)] (fun f wr => ∃ k : Nat, k ≤ n ∧ f 9 = .int .i64 k ∧ ∃ q, wr = w2.drewN q) (fun f _ => n - (intOf (f 9)).toNat) ⟨0, by omega, rfl, 0, rfl⟩ ?_
  rintro f wr ⟨k, hk, h9, q, rfl⟩ K hK
  simp (config := { decide := true }) only [mix_in, mix_out, mix_nil, Nat.reduceAdd]
  rw [h9] at hK ⊢
  clear h9
  by_cases hlt : k < n
  · obtain ⟨a1, r, rfl, ha1, hx1, hm1, hrb, c0, c1', c2, c3⟩ := hR2.get hlt
    obtain ⟨a2, p, rfl, ha2, hx2, hm2, hpb, e0, e1⟩ := hP2.get hlt
    have hri := I.ins r hm1
    obtain ⟨r', hr', q1, q2⟩ := HS.out k p hx2
    obtain rfl : r' = r := by rw [hr'] at hx1; exact Option.some.inj hx1
    clear hr'
    obtain ⟨rx, ry, rw', rh⟩ := r'
    obtain ⟨px, py⟩ := p
    simp only at q1 q2 hri c0 c1' c2 c3 e0 e1
    subst q1; subst q2
    obtain ⟨i1, i2, i3, i4, i5, i6⟩ := hri
    rw [Int.toNat_of_nonneg (by omega)] at i5
    have HX1 := Lib.hid hx1; clear hx1 hx2 hm1 hm2 hrb hpb
    have t1 : (rw' != rw') = false := by simp
    have t2 : (rh != rh) = false := by simp
    have t3 : decide (rx < 0) = false := decide_eq_false (by omega)
    have t4 : decide (ry < 0) = false := decide_eq_false (by omega)
    have t5 : decide (ww < rx + rw') = false := decide_eq_false (by omega)
    have t6 : decide (h < ry + rh) = false := decide_eq_false (by omega)
    have hk0 : (0 : Int) ≤ (k : Int) := by omega
    have hk1 : (k : Int) < (n : Int) := by omega
    go_wp2_with fail
    try simp only [List.append]
    refine wp_region_quiet_lit (by kernel_rfl) (lexB_of_fast (by kernel_rfl)) ?_
    repeat (go_big_quiet_step (fail))
    refine wpQuiet_nil ?_
    intro _ hw'
    obtain ⟨nq, hw''⟩ := hw'
    subst hw''
    go_wp2_with fail
    refine wp_loop_mix [(6, 6), (10, 10), (129, 207)] (fun f wr => ∃ j : Nat, j ≤ k ∧ f 10 = .int .i64 j ∧ ∃ q, wr = w2.drewN q) (fun f _ => k - (intOf (f 10)).toNat) ⟨0, by omega, rfl, _, World.drewN_drewN ..⟩ ?_
    rintro f' wr' ⟨j, hj, h10, q', rfl⟩ K' hK'
    simp (config := { decide := true }) only [mix_in, mix_out, mix_nil, Nat.reduceAdd]
    rw [h10] at hK' ⊢
    clear h10
    have qq : ∀ (a b : Nat), ∃ q, w2.drewN (a + b) = w2.drewN q := fun a b => ⟨_, rfl⟩
    by_cases hjk : j < k
    · obtain ⟨a3, o, ho, ha3, hx3, hm3, hob, f0, f1, f2, f3⟩ := hR2.get (k := j) (by omega)
      obtain rfl : a1 = a3 := by simpa using ho
      clear ho
      have hdis := I.apart k j o _ hjk hx3 HX1.out
      have hoi := I.ins o hm3
      obtain ⟨ox, oy, ow, oh⟩ := o
      unfold Dis at hdis
      simp only at hdis hoi f0 f1 f2 f3
      obtain ⟨o1, o2, o3, o4, o5, o6⟩ := hoi
      clear hx3 hm3 hob
      have hj0 : (0 : Int) ≤ (j : Int) := by omega
      have hj1 : (j : Int) < (n : Int) := by omega
      by_cases g1 : ox < rx + rw'
      · have u1 : decide (ox < rx + rw') = true := decide_eq_true g1
        by_cases g2 : rx < ox + ow
        · have u2 : decide (rx < ox + ow) = true := decide_eq_true g2
          by_cases g3 : oy < ry + rh
          · have u3 : decide (oy < ry + rh) = true := decide_eq_true g3
            have u4 : decide (ry < oy + oh) = false := decide_eq_false (by omega)
            go_wp2_with fail
            try simp only [List.append]
            refine wp_region_quiet_lit (by kernel_rfl) (lexB_of_fast (by kernel_rfl)) ?_
            repeat (go_big_quiet_step (fail))
            refine wpQuiet_nil ?_
            intro _ hw'
            obtain ⟨nq, hw''⟩ := hw'
            subst hw''
            go_wp2_with fail
            refine MixEnd.intro (by kernel_rfl) ⟨j + 1, by omega, (by show Value.int .i64 ((j : Int) + 1) = _; go_num), qq _ _⟩ ?_
            show k - ((j : Int) + 1).toNat < k - (j : Int).toNat
            omega
          · have u3 : decide (oy < ry + rh) = false := decide_eq_false g3
            go_wp2_with fail
            try simp only [List.append]
            refine wp_region_quiet_lit (by kernel_rfl) (lexB_of_fast (by kernel_rfl)) ?_
            repeat (go_big_quiet_step (fail))
            refine wpQuiet_nil ?_
            intro _ hw'
            obtain ⟨nq, hw''⟩ := hw'
            subst hw''
            go_wp2_with fail
            refine MixEnd.intro (by kernel_rfl) ⟨j + 1, by omega, (by show Value.int .i64 ((j : Int) + 1) = _; go_num), qq _ _⟩ ?_
            show k - ((j : Int) + 1).toNat < k - (j : Int).toNat
            omega
        · have u2 : decide (rx < ox + ow) = false := decide_eq_false g2
          go_wp2_with fail
          try simp only [List.append]
          refine wp_region_quiet_lit (by kernel_rfl) (lexB_of_fast (by kernel_rfl)) ?_
          repeat (go_big_quiet_step (fail))
          refine wpQuiet_nil ?_
          intro _ hw'
          obtain ⟨nq, hw''⟩ := hw'
          subst hw''
          go_wp2_with fail
          refine MixEnd.intro (by kernel_rfl) ⟨j + 1, by omega, (by show Value.int .i64 ((j : Int) + 1) = _; go_num), qq _ _⟩ ?_
          show k - ((j : Int) + 1).toNat < k - (j : Int).toNat
          omega
      · have u1 : decide (ox < rx + rw') = false := decide_eq_false g1
        go_wp2_with fail
        try simp only [List.append]
        refine wp_region_quiet_lit (by kernel_rfl) (lexB_of_fast (by kernel_rfl)) ?_
        repeat (go_big_quiet_step (fail))
        refine wpQuiet_nil ?_
        intro _ hw'
        obtain ⟨nq, hw''⟩ := hw'
        subst hw''
        go_wp2_with fail
        refine MixEnd.intro (by kernel_rfl) ⟨j + 1, by omega, (by show Value.int .i64 ((j : Int) + 1) = _; go_num), qq _ _⟩ ?_
        show k - ((j : Int) + 1).toNat < k - (j : Int).toNat
        omega
    · go_wp2_with fail
      refine MixEnd.intro (by kernel_rfl) ⟨k + 1, by omega, (by show Value.int .i64 ((k : Int) + 1) = _; go_num), _, rfl⟩ ?_
      show n - ((k : Int) + 1).toNat < n - (k : Int).toNat
      omega
  · go_wp2_with fail
    refine (shelved_any _).mono ?_
    rintro e w3 ⟨rfl, hb3⟩
    go_wp2_with fail
    go_ret
    exact ⟨rfl, (below_drewN hb2' q).trans (hb3.mono hb2'.size)⟩

theorem right_law (A : Option Addr) (n c : Nat) (ps : List Pt) (ww h : Int) (w : World) (hP : Pts w w.heap.size A n ps) (bw : i64b ww) (bh : i64b h) :
    Calls Try.prog 4 #[.int .i64 ww, .int .i64 h, .slice A n c] w fun e w' => e = .returned (.bool true) ∧ Below w.heap.size w w' := by
  by_cases hbig : 20 < n ∨ 40 < ww
  · exact right_big A n c ww h w hbig hP.len
  · rcases packS_cases ww h ps with ⟨hp, _⟩ | ⟨hp, _⟩ | ⟨l, sky, hp, hok, _, I, hl, hsz⟩
    · exact right_no A n c ps ww h 1 (.inl rfl) w hP (by omega) (by omega) bw bh hp
    · exact right_no A n c ps ww h 9 (.inr rfl) w hP (by omega) (by omega) bw bh hp
    · obtain ⟨h1, h2, _⟩ := packOk_parts hok
      exact right_yes A n c ps ww h l sky w hP (by omega) h1.1 (by omega) h2.1 h2.2 hp I (by rw [hl, hP.length]) hsz
end Go.Proofs.Ytneoacbacflehaa
