/-
  THE WALK OF THE LAW ShelfStands.
-/
import Derived.Test.YtneoacbacflehaaShelfLawA
import Derived.Test.YtneoacbacflehaaShelfLaw
import Derived.Test.YtneoacbacflehaaSameRWalk
import Derived.Test.YtneoacbacflehaaMix
import Derived.Test.YtneoacbacflehaaLex
set_option linter.unusedVariables false
set_option linter.unusedSimpArgs false
namespace Go.Proofs.Ytneoacbacflehaa
open Go.RowKit

def touch (r o : Rc) : Bool := (o.y + o.h == r.y) && (decide (o.x < r.x + r.w) && decide (r.x < o.x + o.w))
/-- does r stand on the ground, or on one of the first j? -/
def onTo (l : List Rc) (r : Rc) (j : Nat) : Bool := (r.y == 0) || (l.take j).any (touch r)
theorem onTo_succ {l : List Rc} {r o : Rc} {j : Nat} (ho : l[j]? = some o) : onTo l r (j + 1) = (onTo l r j || touch r o) := by
  unfold onTo
  rw [take_snoc' _ _ _ ho, List.any_append]
  simp [Bool.or_assoc]
theorem onTo_zero (l : List Rc) (r : Rc) : onTo l r 0 = (r.y == 0) := by simp [onTo]
theorem Inv.onTo {W : Nat} {h : Int} {sky : List Int} {l : List Rc} (I : Inv W h sky l) {i : Nat} {b : Rc} (hb : l[i]? = some b) : onTo l b i = true := by
  rcases I.stand i b hb with h0 | ⟨k, a, hk, ha, h1, h2, h3⟩
  · unfold Go.Proofs.Ytneoacbacflehaa.onTo; rw [h0]; rfl
  · unfold Go.Proofs.Ytneoacbacflehaa.onTo
    rw [show (l.take i).any (touch b) = true from List.any_eq_true.2 ⟨a, List.mem_of_getElem? (i := k) (by rw [List.getElem?_take, if_pos hk]; exact ha), by simp [touch, h1, h2, h3]⟩]
    simp
theorem packS_take {w h : Int} {ps : List Pt} {l : List Rc} {m : Nat} (hp : packOk w h ps = true) (hg : packGo h ps (List.replicate w.toNat 0) [] = some l) (hm : m ≤ ps.length) : packS w h (ps.take m) = (l.take m, 0) := by
  have e := packGo_take h ps m _ [] l hg hm
  simp only [List.length_nil, Nat.zero_add] at e
  refine packS_yes ?_ e
  unfold packOk at hp ⊢
  simp only [Bool.and_eq_true] at hp ⊢
  exact ⟨hp.1, List.all_eq_true.2 fun x hx => List.all_eq_true.1 hp.2 x (List.mem_of_mem_take hx)⟩

set_option maxRecDepth 100000 in
set_option maxHeartbeats 3200000 in
theorem stands_big (A : Option Addr) (n c : Nat) (ww h many : Int) (w : World) (hbig : 20 < n ∨ 40 < ww ∨ many < 0 ∨ n < many) (hn : n ≤ 9223372036854775807) :
    Calls Try.prog 6 #[.int .i64 ww, .int .i64 h, .slice A n c, .int .i64 many] w fun e w' => e = .returned (.bool true) ∧ Below w.heap.size w w' := by
  by_cases h1 : 20 < n
  · have d1 : decide ((20 : Int) < (n : Int)) = true := decide_eq_true (by omega)
    go_enter Try.func6, Try.ntmps6
    go_wp2_with fail
    go_ret
    exact ⟨rfl, Below.refl _ _⟩
  have d1 : decide ((20 : Int) < (n : Int)) = false := decide_eq_false (by omega)
  by_cases h2 : 40 < ww
  · have d2 : decide (40 < ww) = true := decide_eq_true h2
    go_enter Try.func6, Try.ntmps6
    go_wp2_with fail
    go_ret
    exact ⟨rfl, Below.refl _ _⟩
  have d2 : decide (40 < ww) = false := decide_eq_false h2
  by_cases h3 : many < 0
  · have d3 : decide (many < 0) = true := decide_eq_true h3
    go_enter Try.func6, Try.ntmps6
    go_wp2_with fail
    go_ret
    exact ⟨rfl, Below.refl _ _⟩
  have d3 : decide (many < 0) = false := decide_eq_false h3
  have d4 : decide ((n : Int) < many) = true := decide_eq_true (by omega)
  go_enter Try.func6, Try.ntmps6
  go_wp2_with fail
  go_ret
  exact ⟨rfl, Below.refl _ _⟩

set_option maxRecDepth 100000 in
set_option maxHeartbeats 3200000 in
/-- the law, where Pack answers an error -/
theorem stands_no (A : Option Addr) (n c : Nat) (ps : List Pt) (ww h : Int) (m : Nat) (k : Int) (hk : k = 1 ∨ k = 9) (w : World) (hP : Pts w w.heap.size A n ps) (hn : n ≤ 20) (hm : m ≤ n) (hw : ww ≤ 40) (bw : i64b ww) (bh : i64b h) (hp : packS ww h ps = ([], k)) :
    Calls Try.prog 6 #[.int .i64 ww, .int .i64 h, .slice A n c, .int .i64 m] w fun e w' => e = .returned (.bool true) ∧ Below w.heap.size w w' := by
  have d1 : decide ((20 : Int) < (n : Int)) = false := decide_eq_false (by omega)
  have d2 : decide (40 < ww) = false := decide_eq_false (by omega)
  have d3 : decide ((m : Int) < 0) = false := decide_eq_false (by omega)
  have d4 : decide ((n : Int) < (m : Int)) = false := decide_eq_false (by omega)
  have d4' : decide (n < m) = false := decide_eq_false (by omega)
  have hpk := Lib.hid (pack_as A n c ps ww h w hP (by omega) bw bh hp)
  have HP := Lib.hid hp; clear hp
  rcases hk with rfl | rfl
  all_goals
    go_enter Try.func6, Try.ntmps6
    go_wp2_with fail
    refine hpk.out.mono ?_
    intro e w1 h1
    obtain ⟨A1, c1, rfl, _, hb1⟩ := h1
    simp only [List.length_nil]
    go_wp2_with fail
    refine (shelved_any _).mono ?_
    rintro e w2 ⟨rfl, hb2⟩
    go_wp2_with fail
    go_ret
    exact ⟨rfl, hb1.trans (hb2.mono hb1.size)⟩

set_option maxRecDepth 100000 in
set_option maxHeartbeats 6400000 in
theorem stands_yes (A : Option Addr) (n c : Nat) (ps : List Pt) (ww h : Int) (m : Nat) (l : List Rc) (sky : List Int) (w : World) (hP : Pts w w.heap.size A n ps) (hn : n ≤ 20) (hm : m ≤ n) (hnc : n ≤ c) (hw : 1 ≤ ww) (hw' : ww ≤ 40) (hh : 1 ≤ h) (hh' : h ≤ 256)
    (hp : packS ww h ps = (l, 0)) (hpt : packS ww h (ps.take m) = (l.take m, 0)) (I : Inv ww.toNat h sky l) (hll : l.length = n) :
    Calls Try.prog 6 #[.int .i64 ww, .int .i64 h, .slice A n c, .int .i64 m] w fun e w' => e = .returned (.bool true) ∧ Below w.heap.size w w' := by
  have d1 : decide ((20 : Int) < (n : Int)) = false := decide_eq_false (by omega)
  have d2 : decide (40 < ww) = false := decide_eq_false (by omega)
  have d3 : decide ((m : Int) < 0) = false := decide_eq_false (by omega)
  have d4 : decide ((n : Int) < (m : Int)) = false := decide_eq_false (by omega)
  have d4' : decide (n < m) = false := decide_eq_false (by omega)
  have hpk := Lib.hid (pack_as A n c ps ww h w hP (by omega) ⟨by omega, by omega⟩ ⟨by omega, by omega⟩ hp)
  have hpk2 : Hid (∀ W : World, Below w.heap.size w W → Calls Try.prog 14 #[.int .i64 ww, .int .i64 h, .slice A m c] W (ListRes W 24 4 (l.take m).length (cellsR (l.take m)) 0)) := Lib.hid fun W hW =>
    pack_as A m c (ps.take m) ww h W (((hP.take hm).below hW (Nat.le_refl _)).more hW.size) (by omega) ⟨by omega, by omega⟩ ⟨by omega, by omega⟩ hpt
  have HP := Lib.hid hp; clear hp
  have HPT := Lib.hid hpt; clear hpt
  have HL := Lib.hid hll; clear hll
  have hlb : ∀ r ∈ l, r.b := fun r hr => by
    have := I.ins r hr
    exact ⟨⟨by omega, by omega⟩, ⟨by omega, by omega⟩, ⟨by omega, by omega⟩, ⟨by omega, by omega⟩⟩
  have HLB := Lib.hid hlb; clear hlb
  have HLM : Hid ((l.take m).length = m) := Lib.hid (by rw [List.length_take, HL.out]; omega)
  go_enter Try.func6, Try.ntmps6
  go_wp2_with fail
  refine hpk.out.mono ?_
  intro e w1 h1
  obtain ⟨A1, c1, rfl, hown1, hb1⟩ := h1
  rw [HL.out] at hown1
  simp only [HL.out]
  have hR1 := Rects.of_own hown1 HLB.out (by omega)
  have hnc1 : n ≤ c1 := by
    rcases hown1.2 with ⟨_, h0⟩ | ⟨g, cap, cur, hv, _, _, hc, _⟩
    · omega
    · injection hv with _ _ h3; omega
  clear hown1
  go_wp2_with fail
  refine wp_loop_mix [(8, 8), (11, 13), (43, 119)] (fun f wr => ∃ k : Nat, k ≤ n ∧ f 11 = .int .i64 k ∧ ∃ q, wr = w1.drewN q) (fun f _ => n - (intOf (f 11)).toNat) ⟨0, by omega, rfl, 0, rfl⟩ ?_
  rintro f wr ⟨k, hk, h11, q, rfl⟩ K hK
  simp (config := { decide := true }) only [mix_in, mix_out, mix_nil, Nat.reduceAdd]
  rw [h11] at hK ⊢
  clear h11
  by_cases hlt : k < n
  · obtain ⟨a1, r, rfl, ha1, hx1, hm1, hrb, c0, c1', c2, c3⟩ := hR1.get hlt
    have hri := I.ins r hm1
    have hon := Lib.hid (I.onTo hx1)
    have hon0 := Lib.hid (onTo_zero l r)
    have HX1 := Lib.hid hx1; clear hx1 hm1 hrb
    obtain ⟨i1, i2, i3, i4, i5, i6⟩ := hri
    rw [Int.toNat_of_nonneg (by omega)] at i5
    obtain ⟨R, hR⟩ : ∃ R, R = r := ⟨r, rfl⟩
    have HR := Lib.hid hR; clear hR
    rw [← HR.out] at hon hon0
    obtain ⟨rx, ry, rw', rh⟩ := r
    simp only at i1 i2 i3 i4 i5 i6 c0 c1' c2 c3
    have hk0 : (0 : Int) ≤ (k : Int) := by omega
    have hk1 : (k : Int) < (n : Int) := by omega
    go_wp2_with fail
    refine wp_loop_mix [(12, 13), (55, 117)] (fun f wr => ∃ j : Nat, j ≤ k ∧ f 13 = .int .i64 j ∧ f 12 = .bool (onTo l R j) ∧ ∃ q, wr = w1.drewN q) (fun f _ => k - (intOf (f 13)).toNat) ⟨0, by omega, rfl, (by rw [hon0.out, HR.out]; rfl), _, rfl⟩ ?_
    rintro f' wr' ⟨j, hj, h13, h12, q', rfl⟩ K' hK'
    simp (config := { decide := true }) only [mix_in, mix_out, mix_nil, Nat.reduceAdd]
    rw [h13] at hK' ⊢
    rw [h12]
    clear h13 h12
    have qq : ∀ (a b : Nat), ∃ q, w1.drewN (a + b) = w1.drewN q := fun a b => ⟨_, rfl⟩
    by_cases hjk : j < k
    · obtain ⟨a3, o, ho, ha3, hx3, hm3, hob, f0, f1, f2, f3⟩ := hR1.get (k := j) (by omega)
      obtain rfl : a1 = a3 := by simpa using ho
      clear ho
      have hoi := I.ins o hm3
      obtain ⟨ox, oy, ow, oh⟩ := o
      simp only at hoi f0 f1 f2 f3
      have HSU : Hid (onTo l R (j + 1) = (onTo l R j || ((oy + oh == ry) && (decide (ox < rx + rw') && decide (rx < ox + ow))))) := Lib.hid (by rw [HR.out]; exact onTo_succ hx3)
      obtain ⟨o1, o2, o3, o4, o5, o6⟩ := hoi
      clear hx3 hm3 hob
      have hj0 : (0 : Int) ≤ (j : Int) := by omega
      have hj1 : (j : Int) < (n : Int) := by omega
      generalize onTo l R j = b at HSU hK' ⊢
      have hmeas : k - ((j : Int) + 1).toNat < k - (j : Int).toNat := by omega
      cases b with
      | true =>
        go_wp2_with fail
        try simp only [List.append]
        refine wp_region_quiet_lit (by kernel_rfl) (lexB_of_fast (by kernel_rfl)) ?_
        repeat (go_big_quiet_step (fail))
        refine wpQuiet_nil ?_
        intro _ hw'
        obtain ⟨nq, hw''⟩ := hw'
        subst hw''
        go_wp2_with fail
        exact MixEnd.intro (by kernel_rfl) ⟨j + 1, by omega, (by show Value.int .i64 ((j : Int) + 1) = _; go_num), (by rw [HSU.out]; rfl), qq _ _⟩ hmeas
      | false =>
        cases g3 : (oy + oh == ry) <;> cases g1 : decide (ox < rx + rw') <;> cases g2 : decide (rx < ox + ow)
        all_goals
          rw [g1, g2, g3] at HSU
          go_wp2_with fail
          try simp only [List.append]
          refine wp_region_quiet_lit (by kernel_rfl) (lexB_of_fast (by kernel_rfl)) ?_
          repeat (go_big_quiet_step (fail))
          refine wpQuiet_nil ?_
          intro _ hw'
          obtain ⟨nq, hw''⟩ := hw'
          subst hw''
          go_wp2_with fail
          exact MixEnd.intro (by kernel_rfl) ⟨j + 1, by omega, (by show Value.int .i64 ((j : Int) + 1) = _; go_num), (by rw [HSU.out]; rfl), qq _ _⟩ hmeas
    · obtain rfl : j = k := by omega
      have honT := hon.out
      rw [honT]
      have hjj : decide (j < j) = false := by simp
      go_wp2_with fail
      refine MixEnd.intro (by kernel_rfl) ⟨j + 1, by omega, (by show Value.int .i64 ((j : Int) + 1) = _; go_num), _, rfl⟩ ?_
      show n - ((j : Int) + 1).toNat < n - (j : Int).toNat
      omega
  · have hm0 : (0 : Int) ≤ (m : Int) := by omega
    have hmc : (m : Int) ≤ (c : Int) := by omega
    have hmc1 : (m : Int) ≤ (c1 : Int) := by omega
    go_wp2_with fail
    refine (hpk2.out _ (below_drewN hb1 q)).mono ?_
    intro e w2 h2
    obtain ⟨A2, c2, rfl, hown2, hb2⟩ := h2
    simp only [HLM.out] at hown2 ⊢
    have hR2 := Rects.of_own hown2 (fun r hr => HLB.out r (List.mem_of_mem_take hr)) (by omega)
    clear hown2
    have hb2' : Below w.heap.size w w2 := (below_drewN hb1 q).trans (hb2.mono (by simpa using hb1.size))
    have hR1' := (hR1.take hm).below ((below_drewN (Below.refl _ w1) q).trans (hb2.mono (by simp))) (Nat.le_refl _)
    clear hR1
    go_wp2_with fail
    refine (shelved_any _).mono ?_
    rintro e w3 ⟨rfl, hb3⟩
    have hR2' := hR2.below hb3 (Nat.le_refl _)
    have hR1'' := hR1'.below hb3 (by have := hb2.size; simpa using this)
    have dmm : (m == m) = true := by simp
    have dmm' : ((m : Int) == (m : Int)) = true := by simp
    go_wp2_with fail
    refine (sameR_any _ _ _ _ _ _ _ _ (l.take m) (l.take m) _ hR2' hR1'').mono ?_
    rintro e w4 ⟨rfl, q4, rfl⟩
    rw [show decide (l.take m = l.take m) = true from decide_eq_true rfl]
    go_wp2_with fail
    go_ret
    exact ⟨rfl, below_drewN (hb2'.trans (hb3.mono hb2'.size)) q4⟩

theorem stands_law (A : Option Addr) (n c : Nat) (ps : List Pt) (ww h many : Int) (w : World) (hP : Pts w w.heap.size A n ps) (hnc : n ≤ c) (bw : i64b ww) (bh : i64b h) :
    Calls Try.prog 6 #[.int .i64 ww, .int .i64 h, .slice A n c, .int .i64 many] w fun e w' => e = .returned (.bool true) ∧ Below w.heap.size w w' := by
  by_cases hbig : 20 < n ∨ 40 < ww ∨ many < 0 ∨ n < many
  · exact stands_big A n c ww h many w hbig hP.len
  · obtain ⟨m, rfl⟩ : ∃ m : Nat, many = m := ⟨many.toNat, by omega⟩
    rcases packS_cases ww h ps with ⟨hp, _⟩ | ⟨hp, _⟩ | ⟨l, sky, hp, hok, hg, I, hl, hsz⟩
    · exact stands_no A n c ps ww h m 1 (.inl rfl) w hP (by omega) (by omega) (by omega) bw bh hp
    · exact stands_no A n c ps ww h m 9 (.inr rfl) w hP (by omega) (by omega) (by omega) bw bh hp
    · obtain ⟨h1, h2, _⟩ := packOk_parts hok
      exact stands_yes A n c ps ww h m l sky w hP (by omega) (by omega) hnc h1.1 (by omega) h2.1 h2.2 hp (packS_take hok hg (by rw [hP.length]; omega)) I (by rw [hl, hP.length])
end Go.Proofs.Ytneoacbacflehaa
