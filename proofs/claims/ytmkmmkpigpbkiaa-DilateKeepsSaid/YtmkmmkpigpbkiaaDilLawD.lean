/-
  THE WALK OF THE LAW DilateFarther.
-/
import Derived.Test.YtmkmmkpigpbkiaaDilLawA
set_option linter.unusedVariables false
set_option linter.unusedSimpArgs false
namespace Go.Proofs.Ytmkmmkpigpbkiaa
open Go.RowKit

theorem near_mono {w : Nat} {v : List Int} {x y pad more : Int} {t : Pt} (hpm : pad ≤ more) (hm : more ≤ 8) (h : nearS w v x y pad = (t, true)) : nearS w v x y more = (t, true) := by
  unfold nearS at h ⊢
  have hVV : ∀ i, Val w v x y pad i → Val w v x y more i := fun i hi => ⟨hi.1, Int.le_trans hi.2 hpm⟩
  rcases nearTo_inv w v x y pad (by omega) v.length with ⟨h6, _⟩ | ⟨j, hj, h6, h7, h8, h9⟩
  · rw [h6] at h; simp at h
  · rw [h6] at h
    injection h with h1 h2
    rcases nearTo_inv w v x y more hm v.length with ⟨_, g6⟩ | ⟨j', hj', g6, g7, g8, g9⟩
    · exact absurd (hVV j h7) (g6 j hj)
    · have a1 := g8 j hj (hVV j h7)
      have hv' : Val w v x y pad j' := ⟨g7.1, by have := h7.2; omega⟩
      have a2 := h8 j' hj' hv'
      have e : j' = j := by
        rcases Nat.lt_trichotomy j' j with h | h | h
        · have := h9 j' h hv'; omega
        · exact h
        · have := g9 j h (hVV j h7); omega
      subst e
      rw [g6, h1]
      simp only [Prod.mk.injEq, decide_eq_true_eq, true_and]
      have := g7.2
      omega
theorem near_self {w : Nat} {v : List Int} {h pad : Int} (p : Pict w v h) (hp : 0 ≤ pad) (hp8 : pad ≤ 8) {i : Nat} (hi : i < v.length) (hv : 0 ≤ v.getD i (-1)) : nearS w v ((i % w : Nat) : Int) ((i / w : Nat) : Int) pad = (tx w i, true) := by
  have h0 : farS ⟨((i % w : Nat) : Int), ((i / w : Nat) : Int)⟩ (tx w i) = 0 := (farS_zero _ _).2 rfl
  have hval : Val w v ((i % w : Nat) : Int) ((i / w : Nat) : Int) pad i := ⟨hv, by rw [h0]; exact hp⟩
  unfold nearS
  rcases nearTo_inv w v ((i % w : Nat) : Int) ((i / w : Nat) : Int) pad hp8 v.length with ⟨_, g6⟩ | ⟨j, hj, h6, h7, h8, h9⟩
  · exact absurd hval (g6 i hi)
  · have a1 := h8 i hi hval
    rw [h0] at a1
    have a2 := (farS_range ⟨((i % w : Nat) : Int), ((i / w : Nat) : Int)⟩ (tx w j)).1
    have e : tx w i = tx w j := (farS_zero (tx w i) (tx w j)).1 (by show farS ⟨_, _⟩ (tx w j) = 0; omega)
    have e2 : i = j := by
      have b1 := p.key_tx i
      have b2 := p.key_tx j
      rw [e] at b1; omega
    subst e2
    rw [h6, h0]; simp

theorem spreadS_get {w : Nat} {v : List Int} {pad : Int} {i : Nat} (hi : i < v.length) : (spreadS w v pad)[i]? = some (spreadAt w v pad i) := by
  simp [spreadS, hi]
theorem spreadS_len (w : Nat) (v : List Int) (pad : Int) : (spreadS w v pad).length = v.length := by simp [spreadS]
theorem getD_mem {v : List Int} {i : Nat} (hi : i < v.length) : v.getD i (-1) ∈ v := by
  rw [List.getD_eq_getElem?_getD, List.getElem?_eq_getElem hi]
  exact List.getElem_mem hi
theorem spreadAt_cases {w : Nat} {v : List Int} {h pad : Int} (p : Pict w v h) (hp : 0 ≤ pad) (hp8 : pad ≤ 8) {i : Nat} (hi : i < v.length) :
    (∃ j, j < v.length ∧ nearS w v ((i % w : Nat) : Int) ((i / w : Nat) : Int) pad = (tx w j, true) ∧ spreadAt w v pad i = v.getD j (-1)) ∨
      (nearS w v ((i % w : Nat) : Int) ((i / w : Nat) : Int) pad = (⟨0, 0⟩, false) ∧ spreadAt w v pad i = -1 ∧ v.getD i (-1) = -1) := by
  obtain ⟨⟨t, b⟩, ht⟩ : ∃ s, s = nearS w v ((i % w : Nat) : Int) ((i / w : Nat) : Int) pad := ⟨_, rfl⟩
  cases b with
  | true =>
    obtain ⟨j, hj, rfl⟩ := near_true hp8 ht.symm
    refine .inl ⟨j, hj, ht.symm, ?_⟩
    unfold spreadAt
    rw [← ht]
    have := p.key_tx j
    unfold keyS at this
    simp only [if_true]
    rw [this]
  | false =>
    have e := near_false hp8 ht.symm
    subst e
    have hv : v.getD i (-1) = -1 := by
      have hg := grey_iff.1 (p.g _ (getD_mem hi))
      rcases Int.lt_or_le (v.getD i (-1)) 0 with h1 | h1
      · omega
      · have := near_self p hp hp8 hi h1
        rw [← ht] at this; injection this with _ h2; cases h2
    refine .inr ⟨ht.symm, ?_, hv⟩
    unfold spreadAt
    rw [← ht]
    exact hv
theorem spread_farther {w : Nat} {v : List Int} {h pad more : Int} (p : Pict w v h) (hp : 0 ≤ pad) (hpm : pad ≤ more) (hm : more ≤ 8) {i : Nat} (hi : i < v.length) (h0 : 0 ≤ spreadAt w v pad i) : spreadAt w v more i = spreadAt w v pad i := by
  rcases spreadAt_cases p hp (by omega) hi with ⟨j, hj, hn, hs⟩ | ⟨hn, hs, _⟩
  · have := near_mono hpm hm hn
    rw [hs]
    unfold spreadAt
    rw [this]
    have := p.key_tx j
    unfold keyS at this
    simp only [if_true]
    rw [this]
  · omega
theorem spreadAt_grey {w : Nat} {v : List Int} {h pad : Int} (p : Pict w v h) (hp : 0 ≤ pad) (hp8 : pad ≤ 8) {i : Nat} (hi : i < v.length) : -1 ≤ spreadAt w v pad i ∧ spreadAt w v pad i ≤ 255 := by
  rcases spreadAt_cases p hp hp8 hi with ⟨j, hj, hn, hs⟩ | ⟨hn, hs, _⟩
  · rw [hs]; exact grey_iff.1 (p.g _ (getD_mem hj))
  · rw [hs]; omega
theorem spreadS_i64 {w : Nat} {v : List Int} {h pad : Int} (p : Pict w v h) (hp : 0 ≤ pad) (hp8 : pad ≤ 8) : ∀ x ∈ spreadS w v pad, -1 ≤ x ∧ x ≤ 255 := by
  intro x hx
  simp only [spreadS, List.mem_map, List.mem_range] at hx
  obtain ⟨i, hi, rfl⟩ := hx
  exact spreadAt_grey p hp hp8 hi
theorem spreadF_cases (ww pad : Int) (v : List Int) : (spreadF ww pad v = ([], 1) ∧ openOk ww pad v = false) ∨ (∃ q : Nat, ww = q ∧ spreadF ww pad v = (spreadS q v pad, 0) ∧ levelOk ww v = true ∧ padOk pad = true) := by
  cases h : openOk ww pad v with
  | false => exact .inl ⟨spreadF_no h, rfl⟩
  | true =>
    have h1 := h
    unfold openOk at h1
    simp only [Bool.and_eq_true] at h1
    obtain ⟨q, rfl⟩ : ∃ q : Nat, ww = q := ⟨ww.toNat, by have := (levelOk_iff.1 h1.1).1; omega⟩
    exact .inr ⟨q, rfl, spreadF_yes h, h1.1, h1.2⟩

theorem farther_big (A : Option Addr) (n c : Nat) (ww pad more : Int) (w : World) (hn : n ≤ 9223372036854775807) (hbig : 80 < n ∨ pad < 0 ∨ 8 < pad ∨ more < pad ∨ 8 < more) :
    Calls Try.prog 5 #[.int .i64 ww, .int .i64 pad, .int .i64 more, .slice A n c] w fun e w' => e = .returned (.bool true) ∧ Below w.heap.size w w' := by
  by_cases h1 : 80 < n
  · have d1 : decide ((80 : Int) < (n : Int)) = true := decide_eq_true (by omega)
    go_enter Try.func5, Try.ntmps5
    go_wp2_with fail
    refine (rows_any _).mono ?_
    rintro e w4 ⟨rfl, hb4⟩
    go_wp2_with fail
    go_ret
    exact ⟨rfl, hb4⟩
  have d1 : decide ((80 : Int) < (n : Int)) = false := decide_eq_false (by omega)
  by_cases h2 : pad < 0
  · have d2 : decide (pad < 0) = true := decide_eq_true h2
    go_enter Try.func5, Try.ntmps5
    go_wp2_with fail
    refine (rows_any _).mono ?_
    rintro e w4 ⟨rfl, hb4⟩
    go_wp2_with fail
    go_ret
    exact ⟨rfl, hb4⟩
  have d2 : decide (pad < 0) = false := decide_eq_false h2
  by_cases h3 : 8 < pad
  · have d3 : decide (8 < pad) = true := decide_eq_true h3
    go_enter Try.func5, Try.ntmps5
    go_wp2_with fail
    refine (rows_any _).mono ?_
    rintro e w4 ⟨rfl, hb4⟩
    go_wp2_with fail
    go_ret
    exact ⟨rfl, hb4⟩
  have d3 : decide (8 < pad) = false := decide_eq_false h3
  by_cases h4 : more < pad
  · have d4 : decide (more < pad) = true := decide_eq_true h4
    go_enter Try.func5, Try.ntmps5
    go_wp2_with fail
    refine (rows_any _).mono ?_
    rintro e w4 ⟨rfl, hb4⟩
    go_wp2_with fail
    go_ret
    exact ⟨rfl, hb4⟩
  have d4 : decide (more < pad) = false := decide_eq_false h4
  have d5 : decide (8 < more) = true := decide_eq_true (by omega)
  go_enter Try.func5, Try.ntmps5
  go_wp2_with fail
  refine (rows_any _).mono ?_
  rintro e w4 ⟨rfl, hb4⟩
  go_wp2_with fail
  go_ret
  exact ⟨rfl, hb4⟩

set_option maxRecDepth 100000 in
set_option maxHeartbeats 3200000 in
theorem farther_main (A : Option Addr) (n c : Nat) (v : List Int) (ww pad more : Int) (w : World) (hI : Ints w w.heap.size A n v) (bw : i64b ww) (h1 : n ≤ 80) (h2 : 0 ≤ pad) (h3 : pad ≤ 8) (h4 : pad ≤ more) (h5 : more ≤ 8) :
    Calls Try.prog 5 #[.int .i64 ww, .int .i64 pad, .int .i64 more, .slice A n c] w fun e w' => e = .returned (.bool true) ∧ Below w.heap.size w w' := by
  have d1 : decide ((80 : Int) < (n : Int)) = false := decide_eq_false (by omega)
  have d2 : decide (pad < 0) = false := decide_eq_false (by omega)
  have d3 : decide (8 < pad) = false := decide_eq_false (by omega)
  have d4 : decide (more < pad) = false := decide_eq_false (by omega)
  have d5 : decide (8 < more) = false := decide_eq_false (by omega)
  have hl := Lib.hid hI.length
  have S2 : Hid (∀ (l : List Int) (k : Int), spreadF ww more v = (l, k) → ∀ W, Below w.heap.size w W → Calls Try.prog 11 #[.int .i64 ww, .int .i64 more, .slice A n c] W (ListRes W 3 1 l.length (cellsI l) k)) := Lib.hid fun l k h W hW =>
    spread_as A n c v ww more W ((hI.below hW (Nat.le_refl _)).more hW.size) (by omega) bw h
  rcases spreadF_cases ww pad v with ⟨hf, hno⟩ | ⟨q, rfl, hf, hlo, _⟩
  · have hno2 : openOk ww more v = false := by
      unfold openOk at hno ⊢
      rw [padOk_iff.2 ⟨h2, h3⟩, Bool.and_true] at hno
      rw [hno]; rfl
    have HF := Lib.hid (spread_as A n c v ww pad w hI (by omega) bw hf)
    have HF2 := Lib.hid (S2.out _ _ (spreadF_no hno2))
    clear hf hno hno2 S2
    go_enter Try.func5, Try.ntmps5
    go_wp2_with fail
    refine HF.out.mono ?_
    clear HF
    intro e w1 e1
    obtain ⟨A1, c1, rfl, _, hb1⟩ := e1
    simp only [List.length_nil] at HF2 ⊢
    go_wp2_with fail
    refine (HF2.out _ hb1).mono ?_
    clear HF2
    intro e w2 e2
    obtain ⟨A2, c2, rfl, _, hb2⟩ := e2
    go_wp2_with fail
    refine (rows_any _).mono ?_
    rintro e w4 ⟨rfl, hb4⟩
    go_wp2_with fail
    go_ret
    exact ⟨rfl, hb1.trans ((hb2.trans (hb4.mono hb2.size)).mono hb1.size)⟩
  · have PI := pict_of hlo
    have hok2 : openOk q more v = true := by
      unfold openOk
      rw [hlo, padOk_iff.2 ⟨by omega, h5⟩]; rfl
    have HF := Lib.hid (spread_as A n c v q pad w hI (by omega) bw hf)
    have HF2 := Lib.hid (S2.out _ _ (spreadF_yes hok2))
    rw [spreadS_len, hl.out] at HF HF2
    have HP := Lib.hid (spreadS_i64 PI h2 h3)
    have HQ := Lib.hid (spreadS_i64 PI (by omega : 0 ≤ more) h5)
    have HFA : Hid (∀ i, i < n → 0 ≤ spreadAt q v pad i → spreadAt q v more i = spreadAt q v pad i) := Lib.hid fun i hi h0 => spread_farther PI h2 h4 h5 (by rw [hl.out]; exact hi) h0
    have hnn : ((n : Int) != (n : Int)) = false := by simp
    have hnn' : (n != n) = false := by simp
    clear hf hok2 hlo S2 PI
    go_enter Try.func5, Try.ntmps5
    go_wp2_with fail
    refine HF.out.mono ?_
    clear HF
    intro e w1 e1
    obtain ⟨A1, c1, rfl, hown1, hb1⟩ := e1
    have hI1 := Ints.of_own hown1 (fun x hx => by have := HP.out x hx; omega) (by omega)
    clear hown1
    go_wp2_with fail
    refine (HF2.out _ hb1).mono ?_
    clear HF2
    intro e w2 e2
    obtain ⟨A2, c2, rfl, hown2, hb2⟩ := e2
    have hI2 := Ints.of_own hown2 (fun x hx => by have := HQ.out x hx; omega) (by omega)
    have hI12 := hI1.below hb2 (Nat.le_refl _)
    have hb12 : Below w.heap.size w w2 := hb1.trans (hb2.mono hb1.size)
    clear hown2 hb1 hb2 hI1
    go_wp2_with fail
    go_loopw [13] (fun i wr => ∃ k : Nat, k ≤ n ∧ i = .int .i64 k ∧ ∃ q, wr = w2.drewN q) (fun i _ => n - (intOf i).toNat)
    case atStart => exact ⟨0, by omega, rfl, 0, rfl⟩
    case round =>
      obtain ⟨k, hk, rfl, qd, rfl⟩ := hrel
      by_cases hlt : k < n
      · obtain ⟨ad, x, rfl, hb, hx, hm, hc, hlo, hhi⟩ := hI12.get hlt
        obtain ⟨ad', y, rfl, hb', hy, hm', hc', hlo', hhi'⟩ := hI2.get hlt
        rw [spreadS_get (by rw [hl.out]; exact hlt)] at hx hy
        have hx := Option.some.inj hx
        have hy := Option.some.inj hy
        have hxy : 0 ≤ x → y = x := fun h0 => by rw [← hx, ← hy]; exact HFA.out k hlt (by rw [hx]; exact h0)
        have k0 : (0 : Int) ≤ (k : Int) := by omega
        have k1 : (k : Int) < (n : Int) := by omega
        have t0 : decide ((k : Int) < (n : Int)) = true := decide_eq_true k1
        clear hx hy hm hm'
        by_cases h0 : 0 ≤ x
        · have t3 : decide (0 ≤ x) = true := decide_eq_true h0
          have hyx := hxy h0
          subst hyx
          have t5 : (y != y) = false := by simp
          clear hxy
          go_wp2_with fail
          try simp only [List.append]
          refine wp_region_quiet_lit (by kernel_rfl) (lexB_of_fast (by kernel_rfl)) ?_
          repeat (go_big_quiet_step (fail))
          refine wpQuiet_nil ?_
          intro _ hw'
          obtain ⟨nq, hw''⟩ := hw'
          subst hw''
          go_wp2_with fail
          go_roundw
          case rel => exact ⟨k + 1, by omega, by go_num, _, rfl⟩
          case measure => simp only [intOf]; omega
        · have t3 : decide (0 ≤ x) = false := decide_eq_false h0
          have HXY := Lib.hid hxy; clear hxy
          go_wp2_with fail
          try simp only [List.append]
          refine wp_region_quiet_lit (by kernel_rfl) (lexB_of_fast (by kernel_rfl)) ?_
          repeat (go_big_quiet_step (fail))
          refine wpQuiet_nil ?_
          intro _ hw'
          obtain ⟨nq, hw''⟩ := hw'
          subst hw''
          go_wp2_with fail
          go_roundw
          case rel => exact ⟨k + 1, by omega, by go_num, _, rfl⟩
          case measure => simp only [intOf]; omega
      · have t0 : decide ((k : Int) < (n : Int)) = false := decide_eq_false (by omega)
        go_wp2_with fail
        refine (rows_any _).mono ?_
        rintro e w4 ⟨rfl, hb4⟩
        go_wp2_with fail
        go_ret
        exact ⟨rfl, (below_drewN hb12 qd).trans (hb4.mono (by simpa using hb12.size))⟩

theorem farther_law (A : Option Addr) (n c : Nat) (v : List Int) (ww pad more : Int) (w : World) (hI : Ints w w.heap.size A n v) (bw : i64b ww) :
    Calls Try.prog 5 #[.int .i64 ww, .int .i64 pad, .int .i64 more, .slice A n c] w fun e w' => e = .returned (.bool true) ∧ Below w.heap.size w w' := by
  by_cases hbig : 80 < n ∨ pad < 0 ∨ 8 < pad ∨ more < pad ∨ 8 < more
  · exact farther_big A n c ww pad more w hI.len hbig
  · exact farther_main A n c v ww pad more w hI bw (by omega) (by omega) (by omega) (by omega) (by omega)
end Go.Proofs.Ytmkmmkpigpbkiaa
