/-
  THE STEPS OF wide.Text; strconv.Itoa by the shelf.
-/
import Derived.Test.YtcllghcplphijaaDoorWideWalkB
import Derived.Test.YtcllghcplphijaaDoorShelf
import Derived.Lib.ItoaLen
import Derived.Lib.AppendIntMem
import Derived.Laws.Concat
set_option linter.unusedVariables false
set_option linter.unusedSimpArgs false
set_option maxRecDepth 4000
namespace Go.Proofs.YtcllghcplphijaaDoor
open Go.RowKit

/-- the library's table of powers of ten reads so, whatever is written behind B -/
def TabB (w : World) : Prop := Lib.TabBelow Tryd.prog w.heap.size w "internal/strconv.uint64pow10" .u64 Lib.pow10Tab
theorem TabB.on {w w' : World} (h : TabB w) (hb : Below w.heap.size w w') : TabB w' := fun w'' h' => h w'' (hb.trans (h'.mono hb.size))

theorem itoa_any (n : Int) (w : World) (hn : i64b n) (hT : TabB w) :
    Calls Tryd.prog 38 #[.int .i64 n] w fun e w' => e = .returned (.string ⟨(Lib.itoa n).toArray⟩) ∧ Below w.heap.size w w' := by
  refine (Tryd.strconv_Itoa n hn.1 hn.2 w hT.here).mono ?_
  rintro e w' ⟨rfl, k, os, rfl⟩
  exact ⟨rfl, Lib.below_grow _ _ (Nat.le_refl _) _ _⟩

/-- a sum of strings -/
theorem run_cat {P : Program} (l m : List UInt8) (h : l.length + m.length ≤ 9223372036854775807) (w : World) :
    (Op.stringOp .add ⟨l.toArray⟩ ⟨m.toArray⟩).run P w = .ok (.string ⟨(l ++ m).toArray⟩) w := by
  rw [run_string_add_sum w _ _ (by simpa [ByteArray.size] using h), ByteArray.mk_append_mk]

/-- the text of what is not below 0 -/
def wTextP (b : Pt) : List UInt8 := if b.x = 0 then Lib.itoa b.y else Lib.itoa b.x ++ Lib.repeatL [48] (18 - (Lib.itoa b.y).length) ++ Lib.itoa b.y
def wSide (a : Pt) : Pt := if a.y = 0 then ⟨-a.x, 0⟩ else ⟨-a.x - 1, 1000000000000000000 - a.y⟩
def wText (a : Pt) : List UInt8 := if wIs a then (if a.x < 0 then 45 :: wTextP (wSide a) else wTextP a) else []

/-- a text is handed back -/
def SR (w : World) (l : List UInt8) (e : Ending) (w' : World) : Prop := e = .returned (.string ⟨l.toArray⟩) ∧ Below w.heap.size w w'

theorem wtext_no (a : Pt) (w : World) (ha : a.b) (hi : wIs a = false) : Calls Tryd.prog 16 #[ptV a] w (SR w (wText a)) := by
  have e : wText a = [] := by unfold wText; rw [hi]; rfl
  rw [e]
  have HI := Lib.hid (fun W => is_any a W ha)
  rw [hi] at HI
  obtain ⟨x, y⟩ := a
  clear hi e
  unfold SR ptV at *
  simp only at HI
  obtain ⟨s1, hb, hz⟩ := one_slot w [.int .i64 x, .int .i64 y] #[.int .i64 x, .int .i64 y] 23 rfl
  go_enter Tryd.func16, Tryd.ntmps16
  go_wp2_with fail
  generalize hW : w.alloc (.cells #[.int .i64 x, .int .i64 y] 23) = W at s1 hb hz ⊢
  refine (HI.out W).mono ?_
  clear HI hW
  rintro e w1 ⟨rfl, hb1⟩
  have HB := Lib.hid (hb.trans (hb1.mono (by omega)))
  clear s1 hb hb1 hz
  go_wp2_with fail
  go_ret
  exact ⟨rfl, HB.out⟩

/-- what is not below 0, less than one Base -/
theorem wtext_small (y : Int) (w : World) (ha : (⟨0, y⟩ : Pt).b) (hi : wIs ⟨0, y⟩ = true) (hT : TabB w) : Calls Tryd.prog 16 #[ptV ⟨0, y⟩] w (SR w (wText ⟨0, y⟩)) := by
  have e : wText ⟨0, y⟩ = Lib.itoa y := by unfold wText; rw [if_pos hi, if_neg (by simp)]; rfl
  rw [e]
  have HI := Lib.hid (fun W => is_any ⟨0, y⟩ W ha)
  rw [hi] at HI
  have HT := Lib.hid (fun W hW => itoa_any y W ha.2 hW)
  have HTB := Lib.hid hT; clear hT
  have hl := Lib.itoa_length_le y ha.2.1 ha.2.2
  clear hi e
  generalize Lib.itoa y = t at HT hl ⊢
  have A1 := fun W => run_cat (P := Tryd.prog) [] t (by simp; omega) W
  unfold SR ptV at *
  simp only at HI
  obtain ⟨s1, hb, hz⟩ := one_slot w [.int .i64 0, .int .i64 y] #[.int .i64 0, .int .i64 y] 23 rfl
  go_enter Tryd.func16, Tryd.ntmps16
  go_wp2_with fail
  generalize hW : w.alloc (.cells #[.int .i64 0, .int .i64 y] 23) = W at s1 hb hz ⊢
  refine (HI.out W).mono ?_
  clear HI hW
  rintro e w1 ⟨rfl, hb1⟩
  have HB := Lib.hid (hb.trans (hb1.mono (by omega)))
  have r1 := s1.below hb1 (by omega)
  have c0 := r1.c 0 _ rfl
  have c1 := r1.c 1 _ rfl
  clear s1 hb hb1 hz
  go_wp2_with fail
  refine (HT.out w1 (HTB.out.on HB.out)).mono ?_
  rintro e w2 ⟨rfl, hb1⟩
  have HB2 := Lib.hid (HB.out.trans (hb1.mono HB.out.size))
  clear HT hb1 c0 c1
  go_wp2_with fail
  go_ret
  exact ⟨rfl, HB2.out⟩

theorem nDigits_le : ∀ (k u : Nat), u < 10 ^ (k + 1) → Lib.nDigits u ≤ k + 1
  | 0, u, h => by rw [Lib.nDigits_small (by simpa using h)]; omega
  | k + 1, u, h => by
    by_cases hu : u < 10
    · rw [Lib.nDigits_small hu]; omega
    · rw [Lib.nDigits_big hu]
      rw [Nat.pow_succ] at h
      have := nDigits_le k (u / 10) (by omega)
      omega
theorem itoa_len18 (y : Int) (h0 : 0 ≤ y) (h1 : y < 1000000000000000000) : (Lib.itoa y).length ≤ 18 := by
  obtain ⟨u, rfl⟩ : ∃ u : Nat, y = u := ⟨y.toNat, by omega⟩
  rw [Lib.itoa_nonneg, Lib.decDigits_length]
  exact nDigits_le 17 u (by omega)

theorem repeat_any (c : Int) (w : World) (hc : 0 ≤ c ∧ c ≤ 18) :
    Calls Tryd.prog 39 #[.string ⟨#[48]⟩, .int .i64 c] w fun e w' => e = .returned (.string ⟨(Lib.repeatL [48] c.toNat).toArray⟩) ∧ Below w.heap.size w w' := by
  obtain ⟨k, rfl⟩ : ∃ k : Nat, c = k := ⟨c.toNat, by omega⟩
  exact Tryd.strings_Repeat ⟨#[48]⟩ k w (by omega) (by simp [ByteArray.size]; omega)

set_option maxHeartbeats 800000 in
/-- not below 0, more than one Base -/
theorem wtext_big (x y : Int) (w : World) (ha : (⟨x, y⟩ : Pt).b) (hx : 0 < x) (hi : wIs ⟨x, y⟩ = true) (hT : TabB w) : Calls Tryd.prog 16 #[ptV ⟨x, y⟩] w (SR w (wText ⟨x, y⟩)) := by
  have e : wText ⟨x, y⟩ = Lib.itoa x ++ Lib.repeatL [48] (18 - (Lib.itoa y).length) ++ Lib.itoa y := by
    unfold wText; rw [if_pos hi, if_neg (by simp; omega)]; unfold wTextP; rw [if_neg (by simp; omega)]
  rw [e]
  have HI := Lib.hid (fun W => is_any ⟨x, y⟩ W ha)
  rw [hi] at HI
  rw [wIs_iff] at hi
  simp only at hi
  obtain ⟨i1, i2, i3, i4⟩ := hi
  have HT := Lib.hid (fun W hW => itoa_any y W ha.2 hW)
  have HX := Lib.hid (fun W hW => itoa_any x W ha.1 hW)
  have HTB := Lib.hid hT; clear hT
  have hl := itoa_len18 y i1 i2
  have hm := Lib.itoa_length_le x ha.1.1 ha.1.2
  have HL : Hid ((18 - ((Lib.itoa y).length : Int)).toNat = 18 - (Lib.itoa y).length) := Lib.hid (by omega)
  have HR := Lib.hid (fun W => repeat_any (18 - ((Lib.itoa y).length : Int)) W (by omega))
  rw [HL.out] at HR
  have hq : (Lib.repeatL [48] (18 - (Lib.itoa y).length)).length ≤ 18 := by rw [Lib.repeatL_length]; simp
  clear e HL
  generalize Lib.repeatL [48] (18 - (Lib.itoa y).length) = q at HR hq ⊢
  generalize Lib.itoa y = t at HT HR hl ⊢
  generalize Lib.itoa x = s at HX hm ⊢
  have A1 := fun W => run_cat (P := Tryd.prog) [] s (by simp; omega) W
  have A2 := fun W => run_cat (P := Tryd.prog) s q (by omega) W
  have A3 := fun W => run_cat (P := Tryd.prog) (s ++ q) t (by simp; omega) W
  unfold SR ptV at *
  simp only at HI
  obtain ⟨s1, hb, hz⟩ := one_slot w [.int .i64 x, .int .i64 y] #[.int .i64 x, .int .i64 y] 23 rfl
  have z1 : decide (x < 0) = false := decide_eq_false (by omega)
  have z2 : (x == 0) = false := by simp; omega
  go_enter Tryd.func16, Tryd.ntmps16
  go_wp2_with fail
  generalize hW : w.alloc (.cells #[.int .i64 x, .int .i64 y] 23) = W at s1 hb hz ⊢
  refine (HI.out W).mono ?_
  clear HI hW
  rintro e w1 ⟨rfl, hb1⟩
  have HB := Lib.hid (hb.trans (hb1.mono (by omega)))
  have r1 := s1.below hb1 (by omega)
  have hz1 := hb1.size
  have c0 := r1.c 0 _ rfl
  have c1 := r1.c 1 _ rfl
  clear s1 hb hb1
  go_wp2_with fail
  refine (HT.out w1 (HTB.out.on HB.out)).mono ?_
  rintro e w2 ⟨rfl, hb1⟩
  have HB2 := Lib.hid (HB.out.trans (hb1.mono HB.out.size))
  have c2 := hb1.cell (p := ⟨w.heap.size, 0, none⟩) (by (try dsimp only); omega)
  rw [c0] at c2
  clear HT hb1 c0 c1
  go_wp2_with fail
  refine (HX.out w2 (HTB.out.on HB2.out)).mono ?_
  rintro e w3 ⟨rfl, hb1⟩
  have HB3 := Lib.hid (HB2.out.trans (hb1.mono HB2.out.size))
  clear HX hb1 c2
  go_wp2_with fail
  refine (HR.out w3).mono ?_
  rintro e w4 ⟨rfl, hb1⟩
  have HB4 := Lib.hid (HB3.out.trans (hb1.mono HB3.out.size))
  clear HR hb1
  go_wp2_with fail
  go_ret
  exact ⟨by rw [List.append_assoc]; rfl, HB4.out⟩

/-! ### the other side -/
set_option maxHeartbeats 800000 in
theorem wtext_n1 (x : Int) (w : World) (ha : (⟨x, 0⟩ : Pt).b) (hx : x < 0) (hi : wIs ⟨x, 0⟩ = true) (hT : TabB w) : Calls Tryd.prog 16 #[ptV ⟨x, 0⟩] w (SR w (wText ⟨x, 0⟩)) := by
  have e : wText ⟨x, 0⟩ = 45 :: (Lib.itoa (-x) ++ Lib.repeatL [48] (18 - (Lib.itoa 0).length) ++ Lib.itoa 0) := by
    unfold wText wSide wTextP; rw [if_pos hi]
    simp only [if_true]
    rw [if_pos hx, if_neg (by omega)]
  rw [e]
  have HI := Lib.hid (fun W => is_any ⟨x, 0⟩ W ha)
  rw [hi] at HI
  rw [wIs_iff] at hi
  simp only at hi
  obtain ⟨i1, i2, i3, i4⟩ := hi
  have HTB := Lib.hid hT; clear hT
  have HT := Lib.hid (fun W hW => itoa_any (0) W (by unfold i64b; omega) hW)
  have hl := itoa_len18 (0) (by omega) (by omega)
  have HX := Lib.hid (fun W hW => itoa_any (-x) W (by unfold i64b; omega) hW)
  have hm := Lib.itoa_length_le (-x) (by omega) (by omega)
  have HL : Hid ((18 - ((Lib.itoa (0)).length : Int)).toNat = 18 - (Lib.itoa (0)).length) := Lib.hid (by omega)
  have HR := Lib.hid (fun W => repeat_any (18 - ((Lib.itoa (0)).length : Int)) W (by omega))
  rw [HL.out] at HR
  have hq : (Lib.repeatL [48] (18 - (Lib.itoa (0)).length)).length ≤ 18 := by rw [Lib.repeatL_length]; simp
  clear e HL
  generalize Lib.repeatL [48] (18 - (Lib.itoa (0)).length) = q at HR hq ⊢
  generalize Lib.itoa (0) = t at HT HR hl ⊢
  generalize Lib.itoa (-x) = s at HX hm ⊢
  have A1 := fun W => run_cat (P := Tryd.prog) [45] s (by simp; omega) W
  have A2 := fun W => run_cat (P := Tryd.prog) (45 :: s) q (by simp; omega) W
  have A3 := fun W => run_cat (P := Tryd.prog) (45 :: (s ++ q)) t (by simp; omega) W
  unfold SR ptV at *
  simp only at HI
  obtain ⟨s1, hb, hz⟩ := one_slot w [.int .i64 (x), .int .i64 (0)] #[.int .i64 (x), .int .i64 (0)] 23 rfl
  have z1 : decide (x < 0) = true := decide_eq_true hx
  have z2 : (-x == 0) = false := by simp; omega
  go_enter Tryd.func16, Tryd.ntmps16
  go_wp2_with fail
  generalize hW : w.alloc (.cells #[.int .i64 (x), .int .i64 (0)] 23) = W at s1 hb hz ⊢
  refine (HI.out W).mono ?_
  clear HI hW
  rintro e w0 ⟨rfl, hb1⟩
  have HB0 := Lib.hid (hb.trans (hb1.mono (by omega)))
  have r0 := s1.below hb1 (by omega)
  have hz1 := hb1.size
  have c0 := r0.c 0 _ rfl
  have c1 := r0.c 1 _ rfl
  have f0 := r0.f 0
  have f1 := r0.f 1
  have r1 := Lib.hid (r0.set1 (.int .i64 (-x)))
  have HB := Lib.hid (HB0.out.setCell (p := ⟨w.heap.size, 0, none⟩) (Nat.le_refl _) (.int .i64 (-x)))
  clear s1 hb hb1 r0
  go_wp2_with fail
  refine (HT.out _ (HTB.out.on HB.out)).mono ?_
  rintro e w2 ⟨rfl, hb1⟩
  have HB2 := Lib.hid (HB.out.trans (hb1.mono HB.out.size))
  have r2 := (r1.out.below hb1 (by simp; omega)).c 0 _ rfl
  clear HT hb1 c0 c1 f0 f1
  go_wp2_with fail
  refine (HX.out w2 (HTB.out.on HB2.out)).mono ?_
  rintro e w3 ⟨rfl, hb1⟩
  have HB3 := Lib.hid (HB2.out.trans (hb1.mono HB2.out.size))
  clear HX hb1 r2
  go_wp2_with fail
  refine (HR.out w3).mono ?_
  rintro e w4 ⟨rfl, hb1⟩
  have HB4 := Lib.hid (HB3.out.trans (hb1.mono HB3.out.size))
  clear HR hb1
  go_wp2_with fail
  go_ret
  exact ⟨by simp only [List.append_assoc, List.cons_append]; rfl, HB4.out⟩

set_option maxHeartbeats 800000 in
theorem wtext_n2 (y : Int) (w : World) (ha : (⟨-1, y⟩ : Pt).b) (hy : 0 < y) (hi : wIs ⟨-1, y⟩ = true) (hT : TabB w) : Calls Tryd.prog 16 #[ptV ⟨-1, y⟩] w (SR w (wText ⟨-1, y⟩)) := by
  have e : wText ⟨-1, y⟩ = 45 :: Lib.itoa (1000000000000000000 - y) := by
    unfold wText
    rw [if_pos hi, if_pos (show (-1 : Int) < 0 by decide)]
    unfold wSide
    rw [if_neg (show ¬ (⟨-1, y⟩ : Pt).y = 0 by simp only; omega)]
    rfl
  rw [e]
  have HI := Lib.hid (fun W => is_any ⟨-1, y⟩ W ha)
  rw [hi] at HI
  rw [wIs_iff] at hi
  simp only at hi
  obtain ⟨i1, i2, i3, i4⟩ := hi
  have HTB := Lib.hid hT; clear hT
  have HT := Lib.hid (fun W hW => itoa_any (1000000000000000000 - y) W (by unfold i64b; omega) hW)
  have hl := itoa_len18 (1000000000000000000 - y) (by omega) (by omega)
  clear e
  generalize Lib.itoa (1000000000000000000 - y) = t at HT hl ⊢
  have A1 := fun W => run_cat (P := Tryd.prog) [45] t (by simp; omega) W
  unfold SR ptV at *
  simp only at HI
  obtain ⟨s1, hb, hz⟩ := one_slot w [.int .i64 (-1), .int .i64 (y)] #[.int .i64 (-1), .int .i64 (y)] 23 rfl
  have z2 : (y == 0) = false := by simp; omega
  go_enter Tryd.func16, Tryd.ntmps16
  go_wp2_with fail
  generalize hW : w.alloc (.cells #[.int .i64 (-1), .int .i64 (y)] 23) = W at s1 hb hz ⊢
  refine (HI.out W).mono ?_
  clear HI hW
  rintro e w0 ⟨rfl, hb1⟩
  have HB0 := Lib.hid (hb.trans (hb1.mono (by omega)))
  have r0 := s1.below hb1 (by omega)
  have hz1 := hb1.size
  have c0 := r0.c 0 _ rfl
  have c1 := r0.c 1 _ rfl
  have f0 := r0.f 0
  have f1 := r0.f 1
  have r1 := Lib.hid (r0.set2 (.int .i64 0) (.int .i64 (1000000000000000000 - y)))
  have HB := Lib.hid ((HB0.out.setCell (p := ⟨w.heap.size, 0, none⟩) (Nat.le_refl _) (.int .i64 0)).setCell (p := ⟨w.heap.size, 1, none⟩) (Nat.le_refl _) (.int .i64 (1000000000000000000 - y)))
  clear s1 hb hb1 r0
  go_wp2_with fail
  refine (HT.out _ (HTB.out.on HB.out)).mono ?_
  rintro e w2 ⟨rfl, hb1⟩
  have HB2 := Lib.hid (HB.out.trans (hb1.mono HB.out.size))
  clear HT hb1 c0 c1 f0 f1
  go_wp2_with fail
  go_ret
  exact ⟨rfl, HB2.out⟩

set_option maxHeartbeats 800000 in
theorem wtext_n3 (x y : Int) (w : World) (ha : (⟨x, y⟩ : Pt).b) (hx : x < -1) (hy : 0 < y) (hi : wIs ⟨x, y⟩ = true) (hT : TabB w) : Calls Tryd.prog 16 #[ptV ⟨x, y⟩] w (SR w (wText ⟨x, y⟩)) := by
  have e : wText ⟨x, y⟩ = 45 :: (Lib.itoa (-x - 1) ++ Lib.repeatL [48] (18 - (Lib.itoa (1000000000000000000 - y)).length) ++ Lib.itoa (1000000000000000000 - y)) := by
    unfold wText
    rw [if_pos hi, if_pos (show (⟨x, y⟩ : Pt).x < 0 by simp only; omega)]
    unfold wSide
    rw [if_neg (show ¬ (⟨x, y⟩ : Pt).y = 0 by simp only; omega)]
    unfold wTextP
    rw [if_neg (by simp only; omega)]
  rw [e]
  have HI := Lib.hid (fun W => is_any ⟨x, y⟩ W ha)
  rw [hi] at HI
  rw [wIs_iff] at hi
  simp only at hi
  obtain ⟨i1, i2, i3, i4⟩ := hi
  have HTB := Lib.hid hT; clear hT
  have HT := Lib.hid (fun W hW => itoa_any (1000000000000000000 - y) W (by unfold i64b; omega) hW)
  have hl := itoa_len18 (1000000000000000000 - y) (by omega) (by omega)
  have HX := Lib.hid (fun W hW => itoa_any (-x - 1) W (by unfold i64b; omega) hW)
  have hm := Lib.itoa_length_le (-x - 1) (by omega) (by omega)
  have HL : Hid ((18 - ((Lib.itoa (1000000000000000000 - y)).length : Int)).toNat = 18 - (Lib.itoa (1000000000000000000 - y)).length) := Lib.hid (by omega)
  have HR := Lib.hid (fun W => repeat_any (18 - ((Lib.itoa (1000000000000000000 - y)).length : Int)) W (by omega))
  rw [HL.out] at HR
  have hq : (Lib.repeatL [48] (18 - (Lib.itoa (1000000000000000000 - y)).length)).length ≤ 18 := by rw [Lib.repeatL_length]; simp
  clear e HL
  generalize Lib.repeatL [48] (18 - (Lib.itoa (1000000000000000000 - y)).length) = q at HR hq ⊢
  generalize Lib.itoa (1000000000000000000 - y) = t at HT HR hl ⊢
  generalize Lib.itoa (-x - 1) = s at HX hm ⊢
  have A1 := fun W => run_cat (P := Tryd.prog) [45] s (by simp; omega) W
  have A2 := fun W => run_cat (P := Tryd.prog) (45 :: s) q (by simp; omega) W
  have A3 := fun W => run_cat (P := Tryd.prog) (45 :: (s ++ q)) t (by simp; omega) W
  unfold SR ptV at *
  simp only at HI
  obtain ⟨s1, hb, hz⟩ := one_slot w [.int .i64 (x), .int .i64 (y)] #[.int .i64 (x), .int .i64 (y)] 23 rfl
  have z1 : decide (x < 0) = true := decide_eq_true (by omega)
  have z2 : (y == 0) = false := by simp; omega
  have z3 : (-x - 1 == 0) = false := by simp; omega
  go_enter Tryd.func16, Tryd.ntmps16
  go_wp2_with fail
  generalize hW : w.alloc (.cells #[.int .i64 (x), .int .i64 (y)] 23) = W at s1 hb hz ⊢
  refine (HI.out W).mono ?_
  clear HI hW
  rintro e w0 ⟨rfl, hb1⟩
  have HB0 := Lib.hid (hb.trans (hb1.mono (by omega)))
  have r0 := s1.below hb1 (by omega)
  have hz1 := hb1.size
  have c0 := r0.c 0 _ rfl
  have c1 := r0.c 1 _ rfl
  have f0 := r0.f 0
  have f1 := r0.f 1
  have r1 := Lib.hid (r0.set2 (.int .i64 (-x - 1)) (.int .i64 (1000000000000000000 - y)))
  have HB := Lib.hid ((HB0.out.setCell (p := ⟨w.heap.size, 0, none⟩) (Nat.le_refl _) (.int .i64 (-x - 1))).setCell (p := ⟨w.heap.size, 1, none⟩) (Nat.le_refl _) (.int .i64 (1000000000000000000 - y)))
  clear s1 hb hb1 r0
  go_wp2_with fail
  refine (HT.out _ (HTB.out.on HB.out)).mono ?_
  rintro e w2 ⟨rfl, hb1⟩
  have HB2 := Lib.hid (HB.out.trans (hb1.mono HB.out.size))
  have r2 := (r1.out.below hb1 (by simp; omega)).c 0 _ rfl
  clear HT hb1 c0 c1 f0 f1
  go_wp2_with fail
  refine (HX.out w2 (HTB.out.on HB2.out)).mono ?_
  rintro e w3 ⟨rfl, hb1⟩
  have HB3 := Lib.hid (HB2.out.trans (hb1.mono HB2.out.size))
  clear HX hb1 r2
  go_wp2_with fail
  refine (HR.out w3).mono ?_
  rintro e w4 ⟨rfl, hb1⟩
  have HB4 := Lib.hid (HB3.out.trans (hb1.mono HB3.out.size))
  clear HR hb1
  go_wp2_with fail
  go_ret
  exact ⟨by simp only [List.append_assoc, List.cons_append]; rfl, HB4.out⟩

theorem wtext_any (a : Pt) (w : World) (ha : a.b) (hT : TabB w) : Calls Tryd.prog 16 #[ptV a] w (SR w (wText a)) := by
  cases hi : wIs a with
  | false => exact wtext_no a w ha hi
  | true =>
    obtain ⟨x, y⟩ := a
    have h := (wIs_iff _).1 hi
    simp only at h
    by_cases hx : x < 0
    · by_cases hy : y = 0
      · subst hy; exact wtext_n1 x w ha hx hi hT
      · by_cases h1 : x = -1
        · subst h1; exact wtext_n2 y w ha (by omega) hi hT
        · exact wtext_n3 x y w ha (by omega) (by omega) hi hT
    · by_cases h0 : x = 0
      · subst h0; exact wtext_small y w ha hi hT
      · exact wtext_big x y w ha (by omega) hi hT
end Go.Proofs.YtcllghcplphijaaDoor
