/-
  THE WALK OF limewashref17.Place.
-/
import Derived.Test.YtneoacbacflehaaShelfRefB
set_option linter.unusedVariables false
set_option linter.unusedSimpArgs false
namespace Go.Proofs.Ytneoacbacflehaa
open Go.RowKit

theorem findTo_no {sky : List Int} {n : Nat} {h most : Int} {k : Nat} (hf : (findTo sky n h most k).2.2 = false) : findTo sky n h most k = (0, 0, false) := by
  induction k with
  | zero => rfl
  | succ k ih =>
    simp only [findTo] at hf ⊢
    split at hf
    · simp at hf
    · rw [if_neg (by assumption)]; exact ih hf
def lowOf (s : Int × Int × Bool) : Int := if s.2.2 then s.2.1 else -1

theorem rplace_no (A : Option Addr) (n c : Nat) (sky : List Int) (ww h most : Int) (w : World) (hI : Ints w w.heap.size A n sky) (hno : (skyOk sky && (texel ww && texel h && texel most)) = false) :
    Calls Try.prog 11 #[.slice A n c, .int .i64 ww, .int .i64 h, .int .i64 most] w fun e w' => e = .returned (.tuple #[.int .i64 0, .int .i64 0, .bool false]) ∧ w' = w := by
  have S := Lib.hid (rsky_any _ A n c sky w hI)
  have W := Lib.hid (rwithin_any ww w)
  have H := Lib.hid (rwithin_any h w)
  have M := Lib.hid (rwithin_any most w)
  generalize skyOk sky = s at S hno
  generalize texel ww = a at W hno
  generalize texel h = b at H hno
  generalize texel most = d at M hno
  cases s
  · go_enter Try.func11, Try.ntmps11
    go_wp2_with fail
    refine S.out.mono ?_
    rintro e w1 ⟨rfl, rfl⟩
    go_wp2_with fail
    go_ret3
    exact ⟨rfl, rfl⟩
  cases a
  · go_enter Try.func11, Try.ntmps11
    go_wp2_with fail
    refine S.out.mono ?_
    rintro e w1 ⟨rfl, rfl⟩
    go_wp2_with fail
    refine W.out.mono ?_
    rintro e w1 ⟨rfl, rfl⟩
    go_wp2_with fail
    go_ret3
    exact ⟨rfl, rfl⟩
  cases b
  · go_enter Try.func11, Try.ntmps11
    go_wp2_with fail
    refine S.out.mono ?_
    rintro e w1 ⟨rfl, rfl⟩
    go_wp2_with fail
    refine W.out.mono ?_
    rintro e w1 ⟨rfl, rfl⟩
    go_wp2_with fail
    refine H.out.mono ?_
    rintro e w1 ⟨rfl, rfl⟩
    go_wp2_with fail
    go_ret3
    exact ⟨rfl, rfl⟩
  cases d
  · go_enter Try.func11, Try.ntmps11
    go_wp2_with fail
    refine S.out.mono ?_
    rintro e w1 ⟨rfl, rfl⟩
    go_wp2_with fail
    refine W.out.mono ?_
    rintro e w1 ⟨rfl, rfl⟩
    go_wp2_with fail
    refine H.out.mono ?_
    rintro e w1 ⟨rfl, rfl⟩
    go_wp2_with fail
    refine M.out.mono ?_
    rintro e w1 ⟨rfl, rfl⟩
    go_wp2_with fail
    go_ret3
    exact ⟨rfl, rfl⟩
  simp at hno

theorem rplace_yes (A : Option Addr) (n c : Nat) (sky : List Int) (q : Nat) (h most : Int) (w : World) (hI : Ints w w.heap.size A n sky) (hs : skyOk sky = true) (hq : texel q = true) (hh : texel h = true) (hm : texel most = true) :
    Calls Try.prog 11 #[.slice A n c, .int .i64 q, .int .i64 h, .int .i64 most] w fun e w' => e = .returned (.tuple #[.int .i64 (findTo sky q h most (n + 1 - q)).1, .int .i64 (findTo sky q h most (n + 1 - q)).2.1, .bool (findTo sky q h most (n + 1 - q)).2.2]) ∧ w' = w := by
  have S := Lib.hid (rsky_any _ A n c sky w hI)
  have W := Lib.hid (rwithin_any q w)
  have H := Lib.hid (rwithin_any h w)
  have M := Lib.hid (rwithin_any most w)
  rw [hs] at S; rw [hq] at W; rw [hh] at H; rw [hm] at M
  obtain ⟨hn256, hs2⟩ := skyOk_iff.1 hs
  rw [hI.length] at hn256
  obtain ⟨hq1, hq2⟩ := texel_iff.1 hq
  obtain ⟨hh1, hh2⟩ := texel_iff.1 hh
  obtain ⟨hm1, hm2⟩ := texel_iff.1 hm
  have HH := Lib.hid (fun k (hk : k + q ≤ n) => height_any _ A n c sky k q w hI hk (by omega) (by omega) hs2)
  have HG : Hid (∀ k, k + q ≤ n → 0 ≤ hgt sky k q ∧ hgt sky k q ≤ 256) := Lib.hid fun k hk => hs2 _ (hgt_mem (by omega) (by rw [hI.length]; omega))
  clear hs hq hh hm hs2
  go_enter Try.func11, Try.ntmps11
  go_wp2_with fail
  refine S.out.mono ?_
  rintro e w1 ⟨rfl, rfl⟩
  go_wp2_with fail
  refine W.out.mono ?_
  rintro e w1 ⟨rfl, rfl⟩
  go_wp2_with fail
  refine H.out.mono ?_
  rintro e w1 ⟨rfl, rfl⟩
  go_wp2_with fail
  refine M.out.mono ?_
  rintro e w1 ⟨rfl, rfl⟩
  go_wp2_with fail
  go_loopw [11, 12, 13] (fun at_ lo i wr => ∃ k : Nat, k ≤ n + 1 - q ∧ i = .int .i64 k ∧ at_ = .int .i64 (findTo sky q h most k).1 ∧ lo = .int .i64 (lowOf (findTo sky q h most k)) ∧ Hid ((findTo sky q h most k).2.2 = true → 0 ≤ (findTo sky q h most k).2.1 ∧ (findTo sky q h most k).2.1 ≤ 256) ∧ wr = w1) (fun _ _ i _ => n + 1 - q - (intOf i).toNat)
  case atStart => exact ⟨0, by omega, rfl, rfl, rfl, Lib.hid (by simp [findTo]), rfl⟩
  case round =>
    obtain ⟨k, hk, rfl, rfl, rfl, hrg, rfl⟩ := hrel
    obtain ⟨⟨a, b, f⟩, hst⟩ : ∃ s, s = findTo sky q h most k := ⟨_, rfl⟩
    have hstep : findTo sky q h most (k + 1) = if hgt sky k q + h ≤ most ∧ (f = false ∨ hgt sky k q < b) then ((k : Int), hgt sky k q, true) else (a, b, f) := by
      simp only [findTo, ← hst]
    have hno := findTo_no (sky := sky) (n := q) (h := h) (most := most) (k := k)
    rw [← hst] at hrg hno ⊢
    simp only [lowOf] at hrg hno ⊢
    have HST := Lib.hid hst; clear hst
    have HSTEP := Lib.hid hstep; clear hstep
    have HNO := Lib.hid hno; clear hno
    by_cases hlt : k + q ≤ n
    · have t0 : decide ((k : Int) + q ≤ n) = true := decide_eq_true (by omega)
      obtain ⟨g1, g2⟩ := HG.out k hlt
      have HC := Lib.hid (HH.out k hlt)
      obtain ⟨y, hy⟩ : ∃ y, y = hgt sky k q := ⟨_, rfl⟩
      rw [← hy] at g1 g2 HC HSTEP
      clear hy
      cases f with
      | false =>
        by_cases h1 : y + h ≤ most
        · have t1 : decide (y + h ≤ most) = true := decide_eq_true h1
          have e : findTo sky q h most (k + 1) = ((k : Int), y, true) := by rw [HSTEP.out, if_pos ⟨h1, .inl rfl⟩]
          have E := Lib.hid e; clear e
          go_wp2_with fail
          refine HC.out.mono ?_
          rintro e w2 ⟨rfl, rfl⟩
          go_wp2_with fail
          go_roundw
          case rel => exact ⟨k + 1, by omega, by go_num, by rw [E.out], by rw [E.out]; rfl, Lib.hid (by rw [E.out]; exact fun _ => ⟨g1, g2⟩), trivial⟩
          case measure => simp only [intOf]; omega
        · have t1 : decide (y + h ≤ most) = false := decide_eq_false h1
          have e : findTo sky q h most (k + 1) = (a, b, false) := by rw [HSTEP.out, if_neg (fun hh => h1 hh.1)]
          have E := Lib.hid e; clear e
          go_wp2_with fail
          refine HC.out.mono ?_
          rintro e w2 ⟨rfl, rfl⟩
          go_wp2_with fail
          go_roundw
          case rel => exact ⟨k + 1, by omega, by go_num, by rw [E.out], by rw [E.out]; rfl, Lib.hid (by rw [E.out]; exact hrg.out), trivial⟩
          case measure => simp only [intOf]; omega
      | true =>
        obtain ⟨b1, b2⟩ := hrg.out rfl
        have tl : decide (b < 0) = false := decide_eq_false (by omega)
        by_cases h1 : y + h ≤ most
        · have t1 : decide (y + h ≤ most) = true := decide_eq_true h1
          by_cases h2 : y < b
          · have t2 : decide (y < b) = true := decide_eq_true h2
            have e : findTo sky q h most (k + 1) = ((k : Int), y, true) := by rw [HSTEP.out, if_pos ⟨h1, .inr h2⟩]
            have E := Lib.hid e; clear e
            go_wp2_with fail
            refine HC.out.mono ?_
            rintro e w2 ⟨rfl, rfl⟩
            go_wp2_with fail
            go_roundw
            case rel => exact ⟨k + 1, by omega, by go_num, by rw [E.out], by rw [E.out]; rfl, Lib.hid (by rw [E.out]; exact fun _ => ⟨g1, g2⟩), trivial⟩
            case measure => simp only [intOf]; omega
          · have t2 : decide (y < b) = false := decide_eq_false h2
            have e : findTo sky q h most (k + 1) = (a, b, true) := by rw [HSTEP.out, if_neg (fun hh => by rcases hh.2 with h | h; cases h; exact h2 h)]
            have E := Lib.hid e; clear e
            go_wp2_with fail
            refine HC.out.mono ?_
            rintro e w2 ⟨rfl, rfl⟩
            go_wp2_with fail
            go_roundw
            case rel => exact ⟨k + 1, by omega, by go_num, by rw [E.out], by rw [E.out]; rfl, Lib.hid (by rw [E.out]; exact fun _ => ⟨b1, b2⟩), trivial⟩
            case measure => simp only [intOf]; omega
        · have t1 : decide (y + h ≤ most) = false := decide_eq_false h1
          have e : findTo sky q h most (k + 1) = (a, b, true) := by rw [HSTEP.out, if_neg (fun hh => h1 hh.1)]
          have E := Lib.hid e; clear e
          go_wp2_with fail
          refine HC.out.mono ?_
          rintro e w2 ⟨rfl, rfl⟩
          go_wp2_with fail
          go_roundw
          case rel => exact ⟨k + 1, by omega, by go_num, by rw [E.out], by rw [E.out]; rfl, Lib.hid (by rw [E.out]; exact fun _ => ⟨b1, b2⟩), trivial⟩
          case measure => simp only [intOf]; omega
    · have t0 : decide ((k : Int) + q ≤ n) = false := decide_eq_false (by omega)
      obtain rfl : k = n + 1 - q := by omega
      cases f with
      | false =>
        have e := HNO.out rfl
        go_wp2_with fail
        go_ret3
        rw [← HST.out]
        injection e with e1 e2
        injection e2 with e2 e3
        subst e1; subst e2
        exact ⟨rfl, rfl⟩
      | true =>
        obtain ⟨b1, b2⟩ := hrg.out rfl
        have t5 : (if b < 0 then 0 else b) = b := by rw [if_neg (by omega)]
        have t6 : decide (0 ≤ b) = true := decide_eq_true b1
        have t7 : decide (b < 0) = false := decide_eq_false (by omega)
        go_wp2_with fail
        go_ret3
        rw [← HST.out]
        exact ⟨rfl, rfl⟩

theorem rplace_any (A : Option Addr) (n c : Nat) (sky : List Int) (ww h most : Int) (w : World) (hI : Ints w w.heap.size A n sky) :
    Calls Try.prog 11 #[.slice A n c, .int .i64 ww, .int .i64 h, .int .i64 most] w fun e w' => e = .returned (.tuple #[.int .i64 (placeS sky ww h most).1, .int .i64 (placeS sky ww h most).2.1, .bool (placeS sky ww h most).2.2]) ∧ w' = w := by
  cases hok : skyOk sky && (texel ww && texel h && texel most) with
  | false =>
    rw [placeS_no hok]
    exact rplace_no A n c sky ww h most w hI hok
  | true =>
    rw [placeS_yes hok]
    simp only [Bool.and_eq_true] at hok
    obtain ⟨h1, ⟨h2, h3⟩, h4⟩ := hok
    obtain ⟨q, rfl⟩ : ∃ q : Nat, ww = q := ⟨ww.toNat, by have := texel_iff.1 h2; omega⟩
    unfold findS
    rw [Int.toNat_natCast, hI.length]
    exact rplace_yes A n c sky q h most w hI h1 h2 h3 h4
end Go.Proofs.Ytneoacbacflehaa
