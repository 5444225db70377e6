/-
  THE PLAIN LAWS of what is printed, of a digit more, of two sides. No program in sight.
-/
import Derived.Test.YtkdffcoofijhkaaDoorScanL
set_option linter.unusedVariables false
set_option linter.unusedSimpArgs false
namespace Go.Proofs.YtkdffcoofijhkaaDoor
open Go

/-! ### a text, signed -/
theorem signed_append (s x : List UInt8) (h : s ≠ []) : signedS (s ++ x) = ((signedS s).1 ++ x, (signedS s).2) := by
  rcases signed_cases s with ⟨t, rfl, e⟩ | ⟨t, rfl, e⟩ | ⟨h1, h2, e⟩
  · rw [e]; simp [signedS, Lib.hasPrefix, Lib.trimPrefix]
  · rw [e]; simp [signedS, Lib.hasPrefix, Lib.trimPrefix]
  · rw [e]
    cases s with
    | nil => exact absurd rfl h
    | cons a r =>
      have n1 : ¬ (45 : UInt8) = a := fun e => h1 r (by rw [e])
      have n2 : ¬ (43 : UInt8) = a := fun e => h2 r (by rw [e])
      simp [signedS, Lib.hasPrefix, Lib.trimPrefix, n1, n2]
theorem signed_none (s : List UInt8) (h1 : s.head? ≠ some 45) (h2 : s.head? ≠ some 43) : signedS s = (s, false) := by
  rcases signed_cases s with ⟨t, rfl, e⟩ | ⟨t, rfl, e⟩ | ⟨_, _, e⟩
  · simp at h1
  · simp at h2
  · exact e
theorem signed_minus (t : List UInt8) : signedS (45 :: t) = (t, true) := by simp [signedS, Lib.hasPrefix, Lib.trimPrefix]
theorem signed_plus (t : List UInt8) : signedS (43 :: t) = (t, false) := by simp [signedS, Lib.hasPrefix, Lib.trimPrefix]

/-! ### what is printed -/
def dgs (u : Nat) : List UInt8 := (List.range 9).map fun t => UInt8.ofNat (48 + u / 10 ^ (8 - t) % 10)
/-- the digits behind the point, of m steps less than 256 -/
def fracS (m : Nat) : List UInt8 := Lib.trimRightB ((dgs (m * 390625 + 100000000)).drop 1) 48
def pointS (m : Nat) : List UInt8 := Lib.trimSuffix (46 :: fracS m) [46]
theorem dec9 (u : Nat) (h1 : 100000000 ≤ u) (h2 : u < 1000000000) : Lib.decDigits u = dgs u := by
  rw [Lib.decDigits_eq, Lib.nDigits_unique 8 u (by simpa using h1) (by simpa using h2)]
  rfl
theorem trimR_is (l : List UInt8) (c : UInt8) : ∃ j, l = Lib.trimRightB l c ++ List.replicate j c ∧ (Lib.trimRightB l c).getLast? ≠ some c := by
  have h := List.takeWhile_append_dropWhile (p := (· == c)) (l := l.reverse)
  have h2 := congrArg List.reverse h
  rw [List.reverse_append, List.reverse_reverse] at h2
  have h3 : (l.reverse.takeWhile (· == c)).reverse = List.replicate (l.reverse.takeWhile (· == c)).length c := by
    rw [List.eq_replicate_iff]
    refine ⟨by simp, fun b hb => ?_⟩
    have hall : ∀ l : List UInt8, ∀ x ∈ l.takeWhile (· == c), x = c := by
      intro l
      induction l with
      | nil => intro x hx; simp at hx
      | cons a r ih =>
        intro x hx
        by_cases ha : a = c
        · subst ha
          simp only [List.takeWhile_cons, beq_self_eq_true, if_true, List.mem_cons] at hx
          rcases hx with rfl | hx
          · rfl
          · exact ih x hx
        · simp [List.takeWhile_cons, ha] at hx
    exact hall _ _ (List.mem_reverse.1 hb)
  refine ⟨(l.reverse.takeWhile (· == c)).length, ?_, ?_⟩
  · unfold Lib.trimRightB
    rw [← h3]; exact h2.symm
  · unfold Lib.trimRightB
    rw [List.getLast?_reverse]
    have := List.head?_dropWhile_not (p := (· == c)) l.reverse
    intro e
    rw [e] at this
    simp at this
theorem numD_zeros (j : Nat) : numD (List.replicate j 48) = 0 := by
  unfold numD
  rw [valN_zero]
  intro d hd
  simp only [List.map_replicate, List.mem_replicate] at hd
  rw [hd.2]; rfl
theorem suffix_point (fr : List UInt8) (h : fr ≠ []) (h2 : fr.getLast? ≠ some 46) : Lib.trimSuffix (46 :: fr) [46] = 46 :: fr := by
  unfold Lib.trimSuffix Lib.hasSuffix
  have : [46].isSuffixOf (46 :: fr) = false := by
    rw [Bool.eq_false_iff]
    intro hs
    rw [List.isSuffixOf_iff_suffix] at hs
    obtain ⟨u, hu⟩ := hs
    have h3 := congrArg List.getLast? hu
    cases e : fr.getLast? with
    | none => exact h (List.getLast?_eq_none_iff.1 e)
    | some a =>
      rw [List.getLast?_append, List.getLast?_cons (l := fr), e] at h3
      simp at h3
      exact h2 (by rw [e, h3])
  rw [this]; rfl
theorem suffix_nil : Lib.trimSuffix [46] [46] = [] := by decide
theorem frac_of (l fr : List UInt8) (j m : Nat) (ha : l.all isDig = true) (hl : l.length = 8) (hn : 256 * numD l = m * 10 ^ 8) (e : l = fr ++ List.replicate j 48) (hlast : fr.getLast? ≠ some 48) :
    fr.all isDig = true ∧ fr.length ≤ 8 ∧ 256 * numD fr = m * 10 ^ fr.length ∧ (m = 0 → fr = []) ∧ (fr = [] → m = 0) ∧ fr.getLast? ≠ some 46 := by
  subst e
  simp only [List.all_append, Bool.and_eq_true] at ha
  simp only [List.length_append, List.length_replicate] at hl
  have h1 : numD (fr ++ List.replicate j 48) = numD fr * 10 ^ j := by rw [numD_append, numD_zeros, List.length_replicate]; omega
  rw [h1, ← hl, Nat.pow_add, ← Nat.mul_assoc, ← Nat.mul_assoc] at hn
  have h2 : 256 * numD fr = m * 10 ^ fr.length := Nat.eq_of_mul_eq_mul_right (Nat.pow_pos (n := j) (show 0 < 10 by decide)) hn
  refine ⟨ha.1, by omega, h2, fun h0 => ?_, fun h0 => ?_, fun h0 => ?_⟩
  · subst h0
    have h3 : numD fr = 0 := by omega
    unfold numD at h3
    rw [valN_zero] at h3
    cases hg : fr.getLast? with
    | none => exact List.getLast?_eq_none_iff.1 hg
    | some a =>
      have hm := List.mem_of_getLast? hg
      have hd := List.all_eq_true.1 ha.1 a hm
      have hz := h3 (dv a) (List.mem_map.2 ⟨a, hm, rfl⟩)
      have := chr_dv hd
      rw [hz] at this
      exact absurd (by rw [hg, ← this]; rfl) hlast
  · subst h0
    rw [numD_nil] at h2
    simp at h2
    exact h2.symm
  · have hd := List.all_eq_true.1 ha.1 46 (List.mem_of_getLast? h0)
    simp [isDig] at hd
theorem dgs_tail (u : Nat) (h1 : 100000000 ≤ u) (h2 : u < 200000000) : ((dgs u).drop 1).all isDig = true ∧ ((dgs u).drop 1).length = 8 ∧ numD ((dgs u).drop 1) + 100000000 = u := by
  have e := dec9 u h1 (by omega)
  have hn := dec_num u
  have ha := dec_all u
  have hl : (dgs u).length = 9 := by simp [dgs]
  rw [e] at hn ha
  have h0 : ∃ r, dgs u = UInt8.ofNat (48 + u / 10 ^ 8 % 10) :: r := ⟨_, rfl⟩
  obtain ⟨r, hr⟩ := h0
  rw [show u / 10 ^ 8 % 10 = 1 by omega] at hr
  rw [hr] at hn ha hl ⊢
  simp only [List.all_cons, Bool.and_eq_true] at ha
  simp only [List.length_cons] at hl
  have hl' : r.length = 8 := by omega
  refine ⟨ha.2, hl', ?_⟩
  unfold numD at hn
  simp only [List.map_cons, valN, List.length_map, hl', dv_chr 1 (by decide)] at hn
  show numD r + _ = _
  unfold numD
  omega
theorem frac_is (m : Nat) (h : m < 256) : (fracS m).all isDig = true ∧ (fracS m).length ≤ 8 ∧ 256 * numD (fracS m) = m * 10 ^ (fracS m).length ∧ pointS m = (if m = 0 then [] else 46 :: fracS m) ∧ (m = 0 → fracS m = []) := by
  obtain ⟨t1, t2, t3⟩ := dgs_tail (m * 390625 + 100000000) (by omega) (by omega)
  obtain ⟨j, e1, e2⟩ := trimR_is ((dgs (m * 390625 + 100000000)).drop 1) 48
  obtain ⟨fr, hfr⟩ : ∃ fr, fr = fracS m := ⟨_, rfl⟩
  have hp : pointS m = Lib.trimSuffix (46 :: fr) [46] := by rw [hfr]; rfl
  rw [hp, ← hfr]
  have e3 : Lib.trimRightB ((dgs (m * 390625 + 100000000)).drop 1) 48 = fr := hfr.symm
  rw [e3] at e1 e2
  clear hp hfr e3
  generalize (dgs (m * 390625 + 100000000)).drop 1 = l at *
  obtain ⟨k1, k2, k3, k4, k5, k6⟩ := frac_of l fr j m t1 t2 (by omega) e1 e2
  refine ⟨k1, k2, k3, ?_, k4⟩
  by_cases h0 : m = 0
  · rw [if_pos h0, k4 h0, suffix_nil]
  · rw [if_neg h0, suffix_point fr (fun h9 => h0 (k5 h9)) k6]
def absS (n : Int) : Nat := n.natAbs
def printS (n : Int) : List UInt8 := (if n < 0 then [45] else []) ++ (Lib.decDigits (n.natAbs / 256) ++ pointS (n.natAbs % 256))
def printR (n : Int) : List UInt8 × Int := if -1048576 ≤ n ∧ n ≤ 1048576 then (printS n, 0) else ([], 5)

theorem cut1_digs : ∀ (l r : List UInt8), l.all isDig = true → cut1 46 (l ++ 46 :: r) = (l, r, true) ∧ cut1 46 l = (l, [], false)
  | [], r, _ => by simp [cut1]
  | c :: l, r, h => by
    simp only [List.all_cons, Bool.and_eq_true] at h
    have ih := cut1_digs l r h.2
    have hne := dig_no_point h.1
    simp [cut1, hne, ih.1, ih.2]
theorem dec_head_sign (u : Nat) (r : List UInt8) : (Lib.decDigits u ++ r).head? ≠ some 45 ∧ (Lib.decDigits u ++ r).head? ≠ some 43 := by
  have ha := dec_all u
  cases e : Lib.decDigits u with
  | nil => exact absurd e (dec_ne u)
  | cons a t =>
    rw [e] at ha
    simp only [List.all_cons, Bool.and_eq_true] at ha
    have := (isDig_iff a).1 ha.1
    simp only [List.cons_append, List.head?_cons, ne_eq, Option.some.injEq]
    constructor <;> (rintro rfl; simp at this)
theorem print_body (F m : Nat) (hm : m < 256) : pok (Lib.decDigits F ++ pointS m) = true ∧ pds (Lib.decDigits F ++ pointS m) = Lib.decDigits F ++ fracS m ∧ (cut1 46 (Lib.decDigits F ++ pointS m)).2.1 = fracS m := by
  obtain ⟨h1, h2, h3, h4, h5⟩ := frac_is m hm
  rw [h4]
  by_cases h0 : m = 0
  · rw [if_pos h0, List.append_nil, h5 h0]
    have := (cut1_digs (Lib.decDigits F) [] (dec_all F)).2
    simp [pok, pds, this, dec_all]
  · rw [if_neg h0]
    have := (cut1_digs (Lib.decDigits F) (fracS m) (dec_all F)).1
    simp [pok, pds, this, dec_all, h1]
theorem signed_print (n : Int) : signedS (printS n) = (Lib.decDigits (n.natAbs / 256) ++ pointS (n.natAbs % 256), decide (n < 0)) := by
  unfold printS
  by_cases hn : n < 0
  · rw [if_pos hn]; simp only [List.singleton_append]; rw [signed_minus, decide_eq_true hn]
  · rw [if_neg hn, List.nil_append, signed_none _ (dec_head_sign _ _).1 (dec_head_sign _ _).2, decide_eq_false hn]
theorem point_len (m : Nat) (hm : m < 256) : (pointS m).length ≤ 9 := by
  have f4 := (frac_is m hm).2.2.2.1
  have f2 := (frac_is m hm).2.1
  by_cases h : m = 0
  · rw [if_pos h] at f4
    rewrite [f4]; exact Nat.zero_le _
  · rw [if_neg h] at f4
    rewrite [f4, List.length_cons]
    generalize (fracS m).length = k at *
    omega
theorem len_print (n : Int) (h : n.natAbs / 256 < 10000) : (printS n).length ≤ 14 := by
  have hlen : (Lib.decDigits (n.natAbs / 256)).length ≤ 4 := dec_len _ 3 h
  have hpl := point_len (n.natAbs % 256) (Nat.mod_lt _ (by decide))
  unfold printS
  generalize Lib.decDigits (n.natAbs / 256) = a at *
  generalize pointS (n.natAbs % 256) = b at *
  by_cases hn : n < 0
  · rw [if_pos hn]; simp only [List.length_append, List.length_cons, List.length_nil]; omega
  · rw [if_neg hn]; simp only [List.length_append, List.length_nil]; omega
theorem ok_print (n : Int) (h : n.natAbs / 256 < 10000) : decOk (printS n) = true := by
  have hl := len_print n h
  obtain ⟨b1, b2, b3⟩ := print_body (n.natAbs / 256) (n.natAbs % 256) (Nat.mod_lt _ (by decide))
  have hne := dec_ne (n.natAbs / 256)
  rw [decOk_eq, signed_print]
  simp only
  rw [b1, b2, decide_eq_true (show (printS n).length ≤ 20 by omega)]
  cases e : Lib.decDigits (n.natAbs / 256) with
  | nil => exact absurd e hne
  | cons a r => rfl
theorem z_print (n : Int) : decZ (printS n) = n := by
  obtain ⟨b1, b2, b3⟩ := print_body (n.natAbs / 256) (n.natAbs % 256) (Nat.mod_lt _ (by decide))
  obtain ⟨f1, f2, f3, f4, f5⟩ := frac_is (n.natAbs % 256) (Nat.mod_lt _ (by decide))
  have hT : 0 < 10 ^ (fracS (n.natAbs % 256)).length := Nat.pow_pos (by decide)
  rw [decZ_eq, signed_print]
  simp only
  rw [b2, b3]
  generalize hx : fracS (n.natAbs % 256) = fr at *
  by_cases hn : n < 0
  · rw [decide_eq_true hn, stepsZ_neg, f3, dec_num, Nat.mul_div_cancel _ hT, Nat.mul_mod_left, if_pos rfl]
    omega
  · rw [decide_eq_false hn, stepsZ_pos, f3, dec_num, Nat.mul_div_cancel _ hT]
    omega
/-- what is printed is parsed as itself -/
theorem parse_print (n : Int) (h1 : -1048576 ≤ n) (h2 : n ≤ 1048576) : parseS (printS n) = (n, 0) := by
  unfold parseS
  rw [ok_print n (by omega), z_print, if_pos rfl, if_pos ⟨h1, h2⟩]
theorem print_inj {n m : Int} (h1 : -1048576 ≤ n ∧ n ≤ 1048576) (h2 : -1048576 ≤ m ∧ m ≤ 1048576) (h : printS n = printS m) : n = m := by
  have e1 := parse_print n h1.1 h1.2
  have e2 := parse_print m h2.1 h2.2
  rw [h, e2] at e1
  injection e1 with e; exact e.symm
/-- a whole number's text is what its steps are printed as -/
theorem print_whole (n : Int) : printS (256 * n) = Lib.itoa n := by
  unfold printS Lib.itoa
  have e1 : (256 * n).natAbs / 256 = n.natAbs := by omega
  have e2 : (256 * n).natAbs % 256 = 0 := by omega
  rw [e1, e2, (frac_is 0 (by decide)).2.2.2.1]
  simp only [if_true, List.append_nil]
  by_cases hn : n < 0
  · rw [if_pos hn, if_pos (by omega)]; rfl
  · rw [if_neg hn, if_neg (by omega), show n.natAbs = n.toNat by omega]; rfl
theorem parse_whole (s : List UInt8) (h : wholeOk s = true) : parseS s = (if -4096 ≤ wholeN s ∧ wholeN s ≤ 4096 then (256 * wholeN s, 0) else (0, 5)) := by
  obtain ⟨e, h1, h2⟩ := whole_is s h
  generalize wholeN s = n at *
  have hcut := (cut1_digs (Lib.decDigits n.natAbs) [] (dec_all n.natAbs)).2
  have hs : signedS s = (Lib.decDigits n.natAbs, decide (n < 0)) := by
    rw [e]; unfold Lib.itoa
    by_cases hn : n < 0
    · rw [if_pos hn, signed_minus]; simp [hn]
    · have := dec_head_sign n.toNat []
      rw [List.append_nil] at this
      rw [if_neg hn, signed_none _ this.1 this.2, show n.natAbs = n.toNat by omega]; simp [hn]
  have hl : (Lib.decDigits n.natAbs).length ≤ 7 := dec_len _ 6 (by omega)
  have hl2 : s.length ≤ 20 := by
    rw [e]; unfold Lib.itoa
    by_cases hn : n < 0
    · rw [if_pos hn]; simp; omega
    · rw [if_neg hn, show n.toNat = n.natAbs by omega]; omega
  have ok : decOk s = true := by
    rw [decOk_eq, hs]
    simp [pok, pds, hcut, dec_all, hl2, dec_ne]
  have hz : decZ s = 256 * n := by
    rw [decZ_eq, hs]
    simp only [pds, hcut]
    by_cases hn : n < 0
    · simp only [hn, decide_true]
      rw [stepsZ_neg, dec_num]
      simp [numD_nil]; omega
    · simp only [hn, decide_false]
      rw [stepsZ_pos, dec_num]
      simp [numD_nil]; omega
  unfold parseS
  rw [ok, hz]
  simp only [if_true]
  by_cases hr : -4096 ≤ n ∧ n ≤ 4096
  · rw [if_pos hr, if_pos (by omega)]
  · rw [if_neg hr, if_neg (by omega)]

/-! ### two sides -/
theorem sides (s : List UInt8) (h1 : s.head? ≠ some 45) (h2 : s.head? ≠ some 43) (hl : s.length ≤ 19) :
    parseS (43 :: s) = parseS s ∧
    ((parseS s).2 ≠ 0 → (parseS (45 :: s)).2 = (parseS s).2) ∧
    ((parseS s).2 = 0 → 0 ≤ (parseS s).1 ∧ (((parseS (45 :: s)).2 = 0 ∧ ((parseS s).1 + (parseS (45 :: s)).1 = 0 ∨ (parseS s).1 + (parseS (45 :: s)).1 = -1)) ∨ ((parseS (45 :: s)).2 = 5 ∧ (parseS s).1 = 1048576))) := by
  have s0 := signed_none s h1 h2
  have ok1 : decOk (43 :: s) = decOk s := by
    rw [decOk_eq, decOk_eq, s0, signed_plus]
    simp [show s.length + 1 ≤ 20 by omega, show s.length ≤ 20 by omega]
  have ok2 : decOk (45 :: s) = decOk s := by
    rw [decOk_eq, decOk_eq, s0, signed_minus]
    simp [show s.length + 1 ≤ 20 by omega, show s.length ≤ 20 by omega]
  have z1 : decZ (43 :: s) = decZ s := by rw [decZ_eq, decZ_eq, s0, signed_plus]
  have za : decZ s = stepsZ false (numD (pds s)) (cut1 46 s).2.1.length := by rw [decZ_eq, s0]
  have zb : decZ (45 :: s) = stepsZ true (numD (pds s)) (cut1 46 s).2.1.length := by rw [decZ_eq, signed_minus]
  have zp := stepsZ_pos (cut1 46 s).1 (cut1 46 s).2.1
  have zn := stepsZ_neg (cut1 46 s).1 (cut1 46 s).2.1
  rw [show numD ((cut1 46 s).1 ++ (cut1 46 s).2.1) = numD (pds s) from rfl] at zp zn
  rw [zp] at za
  rw [zn] at zb
  refine ⟨by unfold parseS; rw [ok1, z1], ?_, ?_⟩
  all_goals
    unfold parseS
    rw [ok2, za, zb]
    generalize 256 * numD (cut1 46 s).2.1 / 10 ^ (cut1 46 s).2.1.length = q
    generalize numD (cut1 46 s).1 = f
    cases decOk s
    · simp
    · simp only [if_true]
      intro h
      revert h
      split <;> split <;> split <;> simp <;> omega

/-! ### a digit more -/
theorem div_more (a e M : Int) (hM : 10 ≤ M) (h0 : 0 ≤ e) (h1 : e ≤ 2304) : a / M ≤ (a + e) / M ∧ (a + e) / M ≤ a / M + 231 ∧ (a - e) / M ≤ a / M ∧ a / M - 231 ≤ (a - e) / M := by
  have m1 : a / M ≤ (a + e) / M := Int.ediv_le_ediv (by omega) (by omega)
  have m2 : (a + e) / M ≤ (a + 231 * M) / M := Int.ediv_le_ediv (by omega) (by omega)
  have m3 : (a - e) / M ≤ a / M := Int.ediv_le_ediv (by omega) (by omega)
  have m4 : (a - 231 * M) / M ≤ (a - e) / M := Int.ediv_le_ediv (by omega) (by omega)
  rw [Int.add_mul_ediv_right _ _ (by omega)] at m2
  rw [show a - 231 * M = a + (-231) * M by omega, Int.add_mul_ediv_right _ _ (by omega)] at m4
  omega
/-- a digit more behind the point -/
theorem steps_more (D k c : Nat) (hc : c ≤ 9) :
    (stepsZ false D k ≤ stepsZ false (10 * D + c) (k + 1) ∧ stepsZ false (10 * D + c) (k + 1) ≤ stepsZ false D k + 231 ∧ (stepsZ false D k < 1048576 → stepsZ false (10 * D + c) (k + 1) < 1048576) ∧ 0 ≤ stepsZ false D k) ∧
    (stepsZ true (10 * D + c) (k + 1) ≤ stepsZ true D k ∧ stepsZ true D k - 231 ≤ stepsZ true (10 * D + c) (k + 1) ∧ (-1048576 < stepsZ true D k → -1048576 ≤ stepsZ true (10 * D + c) (k + 1)) ∧ stepsZ true D k ≤ 0) := by
  obtain ⟨T, hT⟩ : ∃ T : Nat, T = 10 ^ k := ⟨_, rfl⟩
  have hT0 : 0 < T := by rw [hT]; exact Nat.pow_pos (by decide)
  have e1 : stepsZ false D k = (256 * (D : Int)) / (T : Int) := by unfold stepsZ; rw [hT]; simp
  have e2 : stepsZ true D k = (-(256 * (D : Int))) / (T : Int) := by unfold stepsZ; rw [hT]; simp
  have e3 : stepsZ false (10 * D + c) (k + 1) = (2560 * (D : Int) + 256 * (c : Int)) / (10 * (T : Int)) := by
    unfold stepsZ; rw [Nat.pow_succ, ← hT]; simp only [Bool.false_eq_true, if_false]; push_cast; congr 1 <;> omega
  have e4 : stepsZ true (10 * D + c) (k + 1) = (-(2560 * (D : Int)) - 256 * (c : Int)) / (10 * (T : Int)) := by
    unfold stepsZ; rw [Nat.pow_succ, ← hT]; simp only [if_true]; push_cast; congr 1 <;> omega
  have f1 : (256 * (D : Int)) / (T : Int) = (2560 * (D : Int)) / (10 * (T : Int)) := by
    rw [show (2560 * (D : Int)) = 10 * (256 * (D : Int)) by omega, Int.mul_ediv_mul_of_pos _ _ (by decide)]
  have f2 : (-(256 * (D : Int))) / (T : Int) = (-(2560 * (D : Int))) / (10 * (T : Int)) := by
    rw [show -(2560 * (D : Int)) = 10 * (-(256 * (D : Int))) by omega, Int.mul_ediv_mul_of_pos _ _ (by decide)]
  rw [e1, e2, e3, e4]
  have m1 := div_more (2560 * (D : Int)) (256 * (c : Int)) (10 * (T : Int)) (by omega) (by omega) (by omega)
  have m2 := div_more (-(2560 * (D : Int))) (256 * (c : Int)) (10 * (T : Int)) (by omega) (by omega) (by omega)
  rw [← f1] at m1
  rw [← f2] at m2
  refine ⟨⟨m1.1, m1.2.1, fun h => ?_, Int.ediv_nonneg (by omega) (by omega)⟩, m2.2.2.1, m2.2.2.2, fun h => ?_, ?_⟩
  · have h1 : 256 * (D : Int) < 1048576 * (T : Int) := (Int.ediv_lt_iff_lt_mul (by omega)).1 h
    have h2 : (D : Int) < 4096 * (T : Int) := by omega
    refine (Int.ediv_lt_iff_lt_mul (by omega)).2 ?_
    omega
  · have h1 : -1048575 ≤ -(256 * (D : Int)) / (T : Int) := by omega
    have h2 : -1048575 * (T : Int) ≤ -(256 * (D : Int)) := (Int.le_ediv_iff_mul_le (by omega)).1 h1
    refine (Int.le_ediv_iff_mul_le (by omega)).2 ?_
    omega
  · have h1 : (-(256 * (D : Int))) / (T : Int) < 1 := (Int.ediv_lt_iff_lt_mul (by omega)).2 (by omega)
    omega
/-- a nought more turns nothing -/
theorem steps_nought (b : Bool) (D k : Nat) : stepsZ b (10 * D) (k + 1) = stepsZ b D k := by
  unfold stepsZ
  rw [Nat.pow_succ]
  cases b
  · simp only [Bool.false_eq_true, if_false]
    push_cast
    rw [show (256 * (10 * (D : Int))) = 10 * (256 * (D : Int)) by omega, show (10 ^ k * 10 : Int) = 10 * 10 ^ k by rw [Int.mul_comm], Int.mul_ediv_mul_of_pos _ _ (by decide)]
  · simp only [if_true]
    push_cast
    rw [show -(256 * (10 * (D : Int))) = 10 * (-(256 * (D : Int))) by omega, show (10 ^ k * 10 : Int) = 10 * 10 ^ k by rw [Int.mul_comm], Int.mul_ediv_mul_of_pos _ _ (by decide)]
end Go.Proofs.YtkdffcoofijhkaaDoor
