/-
  THE WALKS OF THE PACKAGE shelf, the small ones: within, right, Max, find, rise; IndexFunc and ContainsFunc over ints.
-/
import Derived.Test.YtneoacbacflehaaGeo
import Derived.Test.YtneoacbacflehaaShelfSpec
import Derived.Test.YtneoacbacflehaaProg
set_option linter.unusedVariables false
set_option linter.unusedSimpArgs false
namespace Go.Proofs.Ytneoacbacflehaa
open Go.RowKit

theorem all_false {α : Type} {p : α → Bool} {xs : List α} {x : α} (hm : x ∈ xs) (h : p x = false) : xs.all p = false := by
  rw [List.all_eq_false]; exact ⟨x, hm, by simp [h]⟩
theorem any_true {α : Type} {p : α → Bool} {xs : List α} {x : α} (hm : x ∈ xs) (h : p x = true) : xs.any p = true := by
  rw [List.any_eq_true]; exact ⟨x, hm, h⟩

theorem within_any (B : Nat) (A : Option Addr) (n c : Nat) (xs : List Int) (w : World) (h : Ints w B A n xs) :
    Calls Try.prog 24 #[.slice A n c] w fun e w' => e = .returned (.bool (xs.all texel)) ∧ w = w' := by
  have hn := h.len
  go_enter Try.func24, Try.ntmps24
  go_wp2
  go_loop [7] (fun i => ∃ k : Nat, k ≤ n ∧ i = .int .i64 k ∧ Hid ((xs.take k).all texel = true)) (fun i => n - (intOf i).toNat)
  case atStart => exact ⟨0, Nat.zero_le _, rfl, rfl⟩
  case round =>
    obtain ⟨k, hk, rfl, hall⟩ := hrel
    by_cases hlt : k < n
    · obtain ⟨ad, x, rfl, hb, hx, hm, hc, hlo, hhi⟩ := h.get hlt
      have HX := Lib.hid hx; clear hx
      by_cases h1 : x < 1
      · go_wp2
        go_ret
        exact ⟨ret_bool (all_false hm (texel_lo h1)).symm, rfl⟩
      by_cases h2 : 256 < x
      · go_wp2
        go_ret
        exact ⟨ret_bool (all_false hm (texel_hi h2)).symm, rfl⟩
      go_wp2
      go_round
      case rel => exact ⟨k + 1, by omega, by go_num, by
        refine Lib.hid ?_
        rw [take_snoc' _ _ _ HX.out, List.all_append, hall.out]
        simp [texel_of (Int.not_lt.1 h1) (Int.not_lt.1 h2)]⟩
      case measure => simp [intOf]; omega
    · go_wp2
      go_ret
      refine ⟨ret_bool ?_, rfl⟩
      have := hall.out
      rw [List.take_of_length_le (by rw [h.length]; omega)] at this
      exact this.symm

/-- what an index says: not below 0 just where there is one -/
def IdxRes (b : Bool) (e : Ending) : Prop := ∃ r : Int, e = .returned (.int .i64 r) ∧ -1 ≤ r ∧ r ≤ 9223372036854775807 ∧ decide (0 ≤ r) = b
theorem IdxRes.no {b : Bool} (h : b = false) : IdxRes b (.returned (.int .i64 (-1))) := ⟨-1, rfl, by omega, by omega, by rw [h]; rfl⟩
theorem IdxRes.yes {b : Bool} {k : Nat} (h : b = true) (hk : k ≤ 9223372036854775807) : IdxRes b (.returned (.int .i64 k)) := ⟨k, rfl, by omega, by omega, by rw [h]; simp⟩

/-- the odd one of a sky -/
theorem odd_any (x : Int) (w : World) : Calls Try.prog 38 #[.int .i64 x] w fun e w' => e = .returned (.bool (!level x)) ∧ w = w' := by
  by_cases h1 : x < 0
  · go_enter Try.func38, Try.ntmps38
    go_wp2
    go_ret
    exact ⟨ret_bool (by simp [level, show ¬ 0 ≤ x by omega]), rfl⟩
  · go_enter Try.func38, Try.ntmps38
    go_wp2
    go_ret
    refine ⟨ret_bool ?_, rfl⟩
    have h2 : 0 ≤ x := by omega
    by_cases h3 : 256 < x
    · simp [level, h3, show ¬ x ≤ 256 by omega]
    · simp [level, h2, h3, show x ≤ 256 by omega]

theorem idxI_any (B F : Nat) (f : Int → Bool) (hf : ∀ (x : Int) (W : World), Calls Try.prog F #[.int .i64 x] W fun e w' => e = .returned (.bool (f x)) ∧ W = w')
    (hF : ∀ (args : Array Value) (W : World), Sem.run Try.prog (callFunc F args) W = .ok (.enter F args) W) (A : Option Addr) (n c : Nat) (xs : List Int) (w : World) (h : Ints w B A n xs) :
    Calls Try.prog 44 #[.slice A n c, .func (.func F) #[] #[]] w fun e w' => IdxRes (xs.any f) e ∧ w = w' := by
  have hn := h.len
  have HF := Lib.hid hf; clear hf
  go_enter Try.func44, Try.ntmps44
  go_wp2
  go_loop [8] (fun i => ∃ k : Nat, k ≤ n ∧ i = .int .i64 k ∧ Hid ((xs.take k).any f = false)) (fun i => n - (intOf i).toNat)
  case atStart => exact ⟨0, Nat.zero_le _, rfl, rfl⟩
  case round =>
    obtain ⟨k, hk, rfl, hany⟩ := hrel
    by_cases hlt : k < n
    · obtain ⟨ad, x, rfl, hb, hx, hm, hc, hlo, hhi⟩ := h.get hlt
      have HX := Lib.hid hx; clear hx
      go_wp2_with fail
      refine (HF.out x _).mono ?_
      rintro e w' ⟨rfl, rfl⟩
      cases hfx : f x with
      | true =>
        have HFX := Lib.hid hfx; clear hfx
        go_wp2_with fail
        go_ret
        exact ⟨.yes (any_true hm HFX.out) (by omega), rfl⟩
      | false =>
        have HFX := Lib.hid hfx; clear hfx
        go_wp2_with fail
        go_round
        case rel => exact ⟨k + 1, by omega, by go_num, by
          refine Lib.hid ?_
          rw [take_snoc' _ _ _ HX.out, List.any_append, hany.out]
          simp [HFX.out]⟩
        case measure => simp [intOf]; omega
    · go_wp2_with fail
      go_ret
      refine ⟨.no ?_, rfl⟩
      have := hany.out
      rw [List.take_of_length_le (by rw [h.length]; omega)] at this
      exact this

theorem containsI_any (B F : Nat) (f : Int → Bool) (hf : ∀ (x : Int) (W : World), Calls Try.prog F #[.int .i64 x] W fun e w' => e = .returned (.bool (f x)) ∧ W = w')
    (hF : ∀ (args : Array Value) (W : World), Sem.run Try.prog (callFunc F args) W = .ok (.enter F args) W) (A : Option Addr) (n c : Nat) (xs : List Int) (w : World) (h : Ints w B A n xs) :
    Calls Try.prog 39 #[.slice A n c, .func (.func F) #[] #[]] w fun e w' => e = .returned (.bool (xs.any f)) ∧ w = w' := by
  have HF := Lib.hid hf; clear hf
  go_enter Try.func39, Try.ntmps39
  go_wp2_with fail
  refine (idxI_any B F f HF.out hF A n c xs _ h).mono ?_
  rintro e w' ⟨⟨r, rfl, h1, h2, hr⟩, rfl⟩
  have HR := Lib.hid hr; clear hr
  go_wp2_with fail
  go_ret
  exact ⟨ret_bool HR.out, rfl⟩

theorem right_any (B : Nat) (A : Option Addr) (n c : Nat) (xs : List Int) (w : World) (h : Ints w B A n xs) :
    Calls Try.prog 23 #[.slice A n c] w fun e w' => e = .returned (.bool (skyOk xs)) ∧ w = w' := by
  have hn := h.len
  have hl := Lib.hid h.length
  have hc := Lib.hid (containsI_any B _ _ odd_any (run_callFunc_go Try.func38 (by kernel_rfl) (by kernel_rfl)) A n c xs w h)
  by_cases h1 : n ≤ 256
  · have h1' : (n : Int) ≤ 256 := by omega
    go_enter Try.func23, Try.ntmps23
    go_wp2_with fail
    refine hc.out.mono ?_
    rintro e w' ⟨rfl, rfl⟩
    go_wp2_with fail
    go_ret
    refine ⟨ret_bool ?_, rfl⟩
    simp [skyOk, hl.out, h1, List.all_eq_not_any_not]
  · have h1' : ¬ (n : Int) ≤ 256 := by omega
    go_enter Try.func23, Try.ntmps23
    go_wp2_with fail
    go_ret
    exact ⟨ret_bool (by simp [skyOk, hl.out, h1]), rfl⟩

theorem max_any (B : Nat) (A : Option Addr) (n c : Nat) (xs : List Int) (w : World) (h : Ints w B A n xs) (hl : 1 ≤ n) :
    Calls Try.prog 40 #[.slice A n c] w fun e w' => e = .returned (.int .i64 (maxL xs)) ∧ w = w' := by
  have hn := h.len
  obtain ⟨ad, x, rfl, hb0, hx0, hm0, hc0, hlo0, hhi0⟩ := h.get (k := 0) (by omega)
  obtain ⟨ys, hys⟩ : ∃ ys, xs = x :: ys := by
    cases xs with
    | nil => simp at hx0
    | cons a ys => exact ⟨ys, by simp at hx0; rw [hx0]⟩
  subst hys
  clear hx0 hm0
  rw [show ad.add 0 = ad from rfl] at hc0
  have hl' : (1 : Int) ≤ (n : Int) := by omega
  go_enter Try.func40, Try.ntmps40
  go_wp2
  go_loop [3, 4] (fun m i => ∃ k : Nat, 1 ≤ k ∧ k ≤ n ∧ i = .int .i64 k ∧ m = .int .i64 ((ys.take (k - 1)).foldl max x)) (fun _ i => n - (intOf i).toNat)
  case atStart => exact ⟨1, by omega, hl, rfl, rfl⟩
  case round =>
    obtain ⟨k, hk1, hk, rfl, rfl⟩ := hrel
    by_cases hlt : k < n
    · obtain ⟨ad', y, e, hb, hy, hm, hc, hlo, hhi⟩ := h.get hlt
      obtain rfl : ad = ad' := by simpa using e
      clear e hm
      have HY := Lib.hid hy; clear hy
      go_wp2
      go_round
      case rel => exact ⟨k + 1, by omega, by omega, by go_num, by
        have e : ys.take (k + 1 - 1) = ys.take (k - 1) ++ [y] := by
          rw [show k + 1 - 1 = k - 1 + 1 by omega]
          refine take_snoc' _ _ _ ?_
          have := HY.out
          rwa [show k = k - 1 + 1 by omega, List.getElem?_cons_succ] at this
        rw [e, List.foldl_append, List.foldl_cons, List.foldl_nil, Int.max_def]
        congr 1
        split <;> split <;> omega⟩
      case measure => simp [intOf]; omega
    · go_wp2
      go_ret
      refine ⟨ret_int ?_, rfl⟩
      have := h.length
      rw [List.take_of_length_le (by simp at this; omega)]
      rfl

/-- the sky has its own block: the columns from x on are lifted -/
theorem rise_any (g : Nat) (sky : List Int) (x k : Nat) (to : Int) (c : Nat) (w : World) (hw : w.heap[g]? = some (.cells (cellsI sky).toArray 3 (0, 0))) (hx : x + k ≤ sky.length) (hl : sky.length ≤ 1000000) :
    Calls Try.prog 29 #[.slice (some ⟨g, 0, none⟩) sky.length c, .int .i64 x, .int .i64 k, .int .i64 to] w fun e w' =>
      e = .returned (.tuple #[]) ∧ w'.heap[g]? = some (.cells (cellsI (riseTo sky x to k)).toArray 3 (0, 0)) ∧ w.grownBy w' (some g) := by
  have HW := Lib.hid hw; clear hw
  go_enter Try.func29, Try.ntmps29
  go_wp2
  go_loopw [10] (fun i wr => ∃ j : Nat, j ≤ k ∧ i = .int .i64 j ∧ Hid (wr.heap[g]? = some (.cells (cellsI (riseTo sky x to j)).toArray 3 (0, 0))) ∧ w.grownBy wr (some g)) (fun i _ => k - (intOf i).toNat)
  case atStart => exact ⟨0, Nat.zero_le _, rfl, HW, World.grownBy.refl w _⟩
  case round =>
    obtain ⟨j, hj, rfl, hh, hg⟩ := hrel
    by_cases hlt : j < k
    · have hlen : x + j < (riseTo sky x to j).length := by rw [riseTo_length]; omega
      have hc : wr.cell? ⟨g, x + j, none⟩ = some (.int .i64 ((riseTo sky x to j)[x + j]'hlen)) := by
        rw [cell_of_row _ g _ _ _ _ hh.out]; simp [cellsI, hlen]
      have hf : wr.frozen? ⟨g, x + j, none⟩ = false := frozen_of_row _ g _ _ _ hh.out
      have ha : (⟨g, 0, none⟩ : Addr).add (x + j) = ⟨g, x + j, none⟩ := addr_lit _ _
      have hb : x + j < sky.length := by omega
      go_wp2
      go_roundw
      case rel => exact ⟨j + 1, by omega, by go_num, by
        refine Lib.hid ?_
        rw [heap_setCell_same _ g _ _ _ _ hh.out]
        simp [riseTo, cellsI], World.grownBy.trans hg ⟨rfl, rfl, rfl, by simp, fun i _ hi => heap_setCell_other _ _ _ _ (fun e => hi (by rw [e]))⟩⟩
      case measure => simp [intOf]; omega
    · go_wp2
      go_end0
      obtain rfl : j = k := by omega
      exact ⟨rfl, hh.out, hg⟩

theorem rise_int (g : Nat) (sky : List Int) (x k to : Int) (n c : Nat) (w : World) (hw : w.heap[g]? = some (.cells (cellsI sky).toArray 3 (0, 0))) (hn : sky.length = n) (h0 : 0 ≤ x) (h1 : 0 ≤ k) (hx : x + k ≤ n) (hl : n ≤ 1000000) :
    Calls Try.prog 29 #[.slice (some ⟨g, 0, none⟩) n c, .int .i64 x, .int .i64 k, .int .i64 to] w fun e w' =>
      e = .returned (.tuple #[]) ∧ w'.heap[g]? = some (.cells (cellsI (riseTo sky x.toNat to k.toNat)).toArray 3 (0, 0)) ∧ w.grownBy w' (some g) := by
  subst hn
  have := rise_any g sky x.toNat k.toNat to c w hw (by omega) hl
  rwa [Int.toNat_of_nonneg h0, Int.toNat_of_nonneg h1] at this

theorem find_any (B : Nat) (A : Option Addr) (n c : Nat) (sky : List Int) (ww h most : Int) (w : World) (hI : Ints w B A n sky) (hc : n ≤ c) (hcm : c ≤ maxLen) (hs : ∀ x ∈ sky, 0 ≤ x ∧ x ≤ 256) (hn : n ≤ 256)
    (hw : 1 ≤ ww ∧ ww ≤ 256) (hh : 1 ≤ h ∧ h ≤ 256) (hm : 1 ≤ most ∧ most ≤ 256) :
    Calls Try.prog 25 #[.slice A n c, .int .i64 ww, .int .i64 h, .int .i64 most] w fun e w' =>
      e = .returned (.tuple #[.int .i64 (findS sky ww h most).1, .int .i64 (findS sky ww h most).2.1, .bool (findS sky ww h most).2.2]) ∧ w = w' := by
  unfold maxLen at hcm
  obtain ⟨q, rfl⟩ : ∃ q : Nat, ww = (q : Int) := ⟨ww.toNat, by omega⟩
  have hl := Lib.hid hI.length
  obtain ⟨hw1, hw2⟩ := hw
  obtain ⟨hh1, hh2⟩ := hh
  obtain ⟨hm1, hm2⟩ := hm
  have hq1 : 1 ≤ q := by omega
  have hfr := Lib.hid (findTo_range sky q h most (by omega) hs)
  by_cases hfit : (n : Int) - q + 1 < 0
  · go_enter Try.func25, Try.ntmps25
    go_wp2_with fail
    go_loop [11, 12, 13, 22] (fun a l f i => i = .int .i64 0 ∧ a = .int .i64 0 ∧ l = .int .i64 0 ∧ f = .bool false) (fun _ _ _ _ => 0)
    case atStart => exact ⟨rfl, rfl, rfl, rfl⟩
    case round =>
      obtain ⟨rfl, rfl, rfl, rfl⟩ := hrel
      go_wp2_with fail
      go_ret3
      have e : sky.length + 1 - q = 0 := by have := hl.out; omega
      refine ⟨?_, rfl⟩
      simp [findS, e, findTo]
  · have hfit' : (0 : Int) ≤ (n : Int) - q + 1 := by omega
    go_enter Try.func25, Try.ntmps25
    go_wp2_with fail
    go_loop [11, 12, 13, 22] (fun a l f i => ∃ k : Nat, (k : Int) ≤ n - q + 1 ∧ i = .int .i64 k ∧ a = .int .i64 (findTo sky q h most k).1 ∧ l = .int .i64 (findTo sky q h most k).2.1 ∧ f = .bool (findTo sky q h most k).2.2) (fun _ _ _ i => n - (intOf i).toNat + 1)
    case atStart => exact ⟨0, by omega, rfl, rfl, rfl, rfl⟩
    case round =>
      obtain ⟨k, hk, rfl, rfl, rfl, rfl⟩ := hrel
      by_cases hlt : (k : Int) < n - q + 1
      · have hlt' : k + q ≤ n := by omega
        obtain ⟨ad, hA, hcut⟩ := hI.cut (k := k) (m := q) (by omega) hlt'
        subst hA
        have hmx := Lib.hid (max_any B _ _ q _ w hcut hq1)
        have hk0 : (0 : Int) ≤ (k : Int) := by omega
        obtain ⟨⟨a, l, f⟩, hst⟩ : ∃ s, findTo sky q h most k = s := ⟨_, rfl⟩
        have hb := hfr.out k (by have := hl.out; omega)
        rw [hst] at hb
        simp only [hst]
        obtain ⟨hb1, hb2, hb3, hb4, hb5⟩ := hb
        simp only at hb1 hb2 hb3 hb4
        have HST := Lib.hid hst; clear hst hb5
        have hy := hs _ (hgt_mem (sky := sky) (k := k) (by omega : 0 < q) (by have := hl.out; omega))
        obtain ⟨hy1, hy2⟩ := hy
        go_wp2_with fail
        refine hmx.out.mono ?_
        rintro e w' ⟨rfl, rfl⟩
        rw [show maxL ((sky.drop k).take q) = hgt sky k q from rfl]
        generalize hgy : hgt sky k q = y at *
        have HGY := Lib.hid hgy; clear hgy
        have hstep : Hid (findTo sky q h most (k + 1) = if y + h ≤ most ∧ (f = false ∨ y < l) then ((k : Int), y, true) else (a, l, f)) := by
          refine Lib.hid ?_
          simp only [findTo, HST.out, HGY.out]
        by_cases hp : y + h ≤ most
        · cases f with
          | false =>
            go_wp2_with fail
            go_round
            case rel =>
              have e := hstep.out
              rw [if_pos ⟨hp, by simp⟩] at e
              exact ⟨k + 1, by omega, by go_num, by rw [e], by rw [e], by rw [e]⟩
            case measure => simp [intOf]; omega
          | true =>
            by_cases hlow : y < l
            · go_wp2_with fail
              go_round
              case rel =>
                have e := hstep.out
                rw [if_pos ⟨hp, .inr hlow⟩] at e
                exact ⟨k + 1, by omega, by go_num, by rw [e], by rw [e], by rw [e]⟩
              case measure => simp [intOf]; omega
            · go_wp2_with fail
              go_round
              case rel =>
                have e := hstep.out
                rw [if_neg (by simp [hlow])] at e
                exact ⟨k + 1, by omega, by go_num, by rw [e], by rw [e], by rw [e]⟩
              case measure => simp [intOf]; omega
        · go_wp2_with fail
          go_round
          case rel =>
            have e := hstep.out
            rw [if_neg (fun hh => absurd hh.1 (by omega))] at e
            exact ⟨k + 1, by omega, by go_num, by rw [e], by rw [e], by rw [e]⟩
          case measure => simp [intOf]; omega
      · go_wp2_with fail
        go_ret3
        have e : sky.length + 1 - q = k := by have := hl.out; omega
        exact ⟨by simp [findS, e], rfl⟩
end Go.Proofs.Ytneoacbacflehaa
