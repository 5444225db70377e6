/-
  THE WALK OF THE LAW ShelfRoom.
-/
import Derived.Test.YtneoacbacflehaaShelfLawA
import Derived.Test.YtneoacbacflehaaShelfLaw
set_option linter.unusedVariables false
set_option linter.unusedSimpArgs false
namespace Go.Proofs.Ytneoacbacflehaa
open Go.RowKit

/-- what is left behind k sizes -/
def leftTo (h : Int) (ps : List Pt) : Nat → Int
  | 0 => h
  | k + 1 => leftTo h ps k - (match ps[k]? with | some p => p.y | none => 0)
/-- the first k sizes fit -/
def roomTo (w h : Int) (ps : List Pt) (k : Nat) : Prop := ∀ (j : Nat) (p : Pt), j < k → ps[j]? = some p → 1 ≤ p.x ∧ p.x ≤ w ∧ 1 ≤ p.y ∧ p.y ≤ leftTo h ps j
theorem leftTo_succ {h : Int} {ps : List Pt} {k : Nat} {p : Pt} (hp : ps[k]? = some p) : leftTo h ps (k + 1) = leftTo h ps k - p.y := by simp [leftTo, hp]
theorem room_all (w h : Int) (ps : List Pt) : ∀ (m k : Nat), k + m = ps.length → (∀ (j : Nat) (p : Pt), k ≤ j → ps[j]? = some p → 1 ≤ p.x ∧ p.x ≤ w ∧ 1 ≤ p.y ∧ p.y ≤ leftTo h ps j) → roomOk w (ps.drop k) (leftTo h ps k) = true := by
  intro m
  induction m with
  | zero => intro k hk _; rw [List.drop_of_length_le (by omega)]; rfl
  | succ m ih =>
    intro k hk hr
    have hp : ps[k]? = some (ps[k]'(by omega)) := List.getElem?_eq_getElem (by omega)
    rw [List.drop_eq_getElem_cons (by omega)]
    obtain ⟨h1, h2, h3, h4⟩ := hr k _ (Nat.le_refl _) hp
    simp only [roomOk, Bool.and_eq_true, decide_eq_true_eq]
    refine ⟨⟨⟨⟨h1, h2⟩, h3⟩, h4⟩, ?_⟩
    rw [← leftTo_succ hp]
    exact ih (k + 1) (by omega) (fun j p hj => hr j p (by omega))
theorem room_packs {w h : Int} {ps : List Pt} (hw : 1 ≤ w) (hw' : w ≤ 40) (hh : 1 ≤ h) (hh' : h ≤ 256) (hr : roomTo w h ps ps.length) : ∃ l, packS w h ps = (l, 0) := by
  have hlt : ∀ (j : Nat), j ≤ ps.length → leftTo h ps j ≤ h := by
    intro j
    induction j with
    | zero => intro _; exact Int.le_refl _
    | succ j ih =>
      intro hj
      have hp : ps[j]? = some (ps[j]'(by omega)) := List.getElem?_eq_getElem (by omega)
      have := hr j _ (by omega) hp
      rw [leftTo_succ hp]
      have := ih (by omega); omega
  have hs : ∀ p ∈ ps, sizeOk p = true := by
    intro p hp
    obtain ⟨i, hi, he⟩ := List.getElem_of_mem hp
    have hg : ps[i]? = some p := by rw [List.getElem?_eq_getElem hi, he]
    have h1 := hr i p hi hg
    have h2 := hlt i (by omega)
    simp only [sizeOk, Bool.and_eq_true, texel_iff]
    omega
  have hok : packOk w h ps = true := by
    simp only [packOk, Bool.and_eq_true, texel_iff, List.all_eq_true]
    exact ⟨by omega, hs⟩
  have hro := room_all w h ps ps.length 0 (by omega) (fun j p _ hp => hr j p ((List.getElem?_eq_some_iff.1 hp).1) hp)
  rw [List.drop_zero] at hro
  obtain ⟨q, rfl⟩ : ∃ q : Nat, w = (q : Int) := ⟨w.toNat, by omega⟩
  rcases packS_cases q h ps with ⟨_, h2⟩ | ⟨hp, _⟩ | ⟨l, sky, hp, _⟩
  · rw [hok] at h2; cases h2
  · exfalso
    cases g : packGo h ps (List.replicate q 0) [] with
    | none => exact packGo_room (W := q) ps h (List.replicate q 0) [] (Inv.start q h (by omega)) (fun x hx => by rw [List.eq_of_mem_replicate hx]; omega) hro hs g
    | some l =>
      rw [packS_yes hok (by rw [Int.toNat_natCast]; exact g)] at hp
      cases hp
  · exact ⟨l, hp⟩

set_option maxRecDepth 100000 in
theorem room_big (A : Option Addr) (n c : Nat) (ww h : Int) (w : World) (hbig : 20 < n ∨ 40 < ww ∨ 256 < h) (hn : n ≤ 9223372036854775807) :
    Calls Try.prog 5 #[.int .i64 ww, .int .i64 h, .slice A n c] w fun e w' => e = .returned (.bool true) ∧ Below w.heap.size w w' := by
  by_cases h1 : 20 < n
  · have d1 : decide ((20 : Int) < (n : Int)) = true := decide_eq_true (by omega)
    go_enter Try.func5, Try.ntmps5
    go_wp2_with fail
    go_ret
    exact ⟨rfl, Below.refl _ _⟩
  have d1 : decide ((20 : Int) < (n : Int)) = false := decide_eq_false (by omega)
  by_cases h2 : 40 < ww
  · have d2 : decide (40 < ww) = true := decide_eq_true (by omega)
    go_enter Try.func5, Try.ntmps5
    go_wp2_with fail
    go_ret
    exact ⟨rfl, Below.refl _ _⟩
  have d2 : decide (40 < ww) = false := decide_eq_false (by omega)
  have d3 : decide (256 < h) = true := decide_eq_true (by omega)
  go_enter Try.func5, Try.ntmps5
  go_wp2_with fail
  go_ret
  exact ⟨rfl, Below.refl _ _⟩

/-- what Pack answers is 0, or the sizes are none -/
theorem pack_code (ww h : Int) (ps : List Pt) (hr : roomTo ww h ps ps.length) (hw : ww ≤ 40) (hh : h ≤ 256) : ∃ l k, packS ww h ps = (l, k) ∧ (k = 0 ∨ (k = 1 ∧ (ww < 1 ∨ h < 1))) := by
  by_cases hp : 1 ≤ ww ∧ 1 ≤ h
  · obtain ⟨l, hl⟩ := room_packs hp.1 hw hp.2 hh hr
    exact ⟨l, 0, hl, .inl rfl⟩
  · refine ⟨[], 1, packS_no ?_, .inr ⟨rfl, by omega⟩⟩
    cases e : packOk ww h ps with
    | false => rfl
    | true => have := packOk_parts e; omega

set_option maxRecDepth 100000 in
set_option maxHeartbeats 1600000 in
theorem room_law (A : Option Addr) (n c : Nat) (ps : List Pt) (ww h : Int) (w : World) (hP : Pts w w.heap.size A n ps) (bw : i64b ww) (bh : i64b h) :
    Calls Try.prog 5 #[.int .i64 ww, .int .i64 h, .slice A n c] w fun e w' => e = .returned (.bool true) ∧ Below w.heap.size w w' := by
  by_cases hbig : 20 < n ∨ 40 < ww ∨ 256 < h
  · exact room_big A n c ww h w hbig hP.len
  have d1 : decide ((20 : Int) < (n : Int)) = false := decide_eq_false (by omega)
  have d2 : decide (40 < ww) = false := decide_eq_false (by omega)
  have d3 : decide (256 < h) = false := decide_eq_false (by omega)
  have hn20 : n ≤ 20 := by omega
  have hw40 : ww ≤ 40 := by omega
  have hh256 : h ≤ 256 := by omega
  clear hbig
  obtain ⟨bw1, bw2⟩ := bw
  obtain ⟨bh1, bh2⟩ := bh
  have hlen := Lib.hid hP.length
  go_enter Try.func5, Try.ntmps5
  go_wp2_with fail
  go_loop [7, 8] (fun l i => ∃ k : Nat, k ≤ n ∧ i = .int .i64 k ∧ l = .int .i64 (leftTo h ps k) ∧ Hid (roomTo ww h ps k) ∧ Hid (0 < k → 0 ≤ leftTo h ps k ∧ leftTo h ps k ≤ 256)) (fun _ i => n - (intOf i).toNat)
  case atStart => exact ⟨0, by omega, rfl, rfl, fun j p hj => by omega, fun h0 => by omega⟩
  case round =>
    obtain ⟨k, hk, rfl, rfl, hroom, hrng⟩ := hrel
    by_cases hlt : k < n
    · obtain ⟨ad, p, rfl, hb, hx, hm, hpb, c0, c1⟩ := hP.get hlt
      obtain ⟨px, py⟩ := p
      obtain ⟨⟨p1, p2⟩, ⟨p3, p4⟩⟩ := hpb
      simp only at p1 p2 p3 p4 c0 c1
      have HX := Lib.hid hx; clear hx hm
      have hbnd : -9223372036854775808 ≤ leftTo h ps k ∧ leftTo h ps k ≤ 256 := by
        rcases Nat.eq_zero_or_pos k with h0 | h0
        · subst h0; exact ⟨bh1, hh256⟩
        · have := hrng.out h0; omega
      generalize hlv : leftTo h ps k = lv at *
      have HLV := Lib.hid hlv; clear hlv
      obtain ⟨b1, b2⟩ := hbnd
      have hk0 : (0 : Int) ≤ (k : Int) := by omega
      have hk1 : (k : Int) < (n : Int) := by omega
      by_cases hc : 1 ≤ px ∧ px ≤ ww ∧ 1 ≤ py ∧ py ≤ lv
      · obtain ⟨q1, q2, q3, q4⟩ := hc
        have t1 : decide (px < 1) = false := decide_eq_false (by omega)
        have t2 : decide (ww < px) = false := decide_eq_false (by omega)
        have t3 : decide (py < 1) = false := decide_eq_false (by omega)
        have t4 : decide (lv < py) = false := decide_eq_false (by omega)
        go_wp2_with fail
        go_round
        case rel => exact ⟨k + 1, by omega, by go_num, by rw [leftTo_succ HX.out, HLV.out], Lib.hid fun j p hj hp => by
          rcases Nat.lt_or_ge j k with hjk | hjk
          · exact hroom.out j p hjk hp
          · obtain rfl : j = k := by omega
            rw [HX.out] at hp
            cases hp
            rw [HLV.out]
            exact ⟨q1, q2, q3, q4⟩, Lib.hid fun _ => by rw [leftTo_succ HX.out, HLV.out]; simp only; omega⟩
        case measure => simp [intOf]; omega
      · go_wp2_with fail
        all_goals first
          | (refine (shelved_any _).mono ?_
             rintro e w3 ⟨rfl, hb3⟩
             go_wp2_with fail
             go_ret
             exact ⟨rfl, hb3⟩)
          | (exfalso; omega)
    · obtain rfl : k = n := by omega
      obtain ⟨l, kk, hp, hkk⟩ := pack_code ww h ps (by rw [hlen.out]; exact hroom.out) hw40 hh256
      have hpk := Lib.hid (pack_as A k c ps ww h w hP (by omega) ⟨bw1, bw2⟩ ⟨bh1, bh2⟩ hp)
      clear hp
      go_wp2_with fail
      refine hpk.out.mono ?_
      intro e w1 h1
      obtain ⟨A1, c1, rfl, _, hb1⟩ := h1
      rcases hkk with rfl | ⟨rfl, hbad⟩
      · go_wp2_with fail
        refine (shelved_any _).mono ?_
        rintro e w3 ⟨rfl, hb3⟩
        go_wp2_with fail
        go_ret
        exact ⟨rfl, hb1.trans (hb3.mono hb1.size)⟩
      · go_wp2_with fail
        refine (shelved_any _).mono ?_
        rintro e w3 ⟨rfl, hb3⟩
        by_cases g1 : ww < 1
        · have u1 : decide (ww < 1) = true := decide_eq_true g1
          go_wp2_with fail
          go_ret
          exact ⟨rfl, hb1.trans (hb3.mono hb1.size)⟩
        · have u1 : decide (ww < 1) = false := decide_eq_false g1
          have u2 : decide (h < 1) = true := decide_eq_true (by omega)
          go_wp2_with fail
          go_ret
          exact ⟨rfl, hb1.trans (hb3.mono hb1.size)⟩
end Go.Proofs.Ytneoacbacflehaa
