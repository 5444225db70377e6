/-
  THE LAW ScanSides.
-/
import Derived.Test.YtkdffcoofijhkaaDoorScanLawA
set_option linter.unusedVariables false
set_option linter.unusedSimpArgs false
set_option maxRecDepth 100000
namespace Go.Proofs.YtkdffcoofijhkaaDoor
open Go.RowKit

/-- a byte of a text -/
theorem run_at (l : List UInt8) (k : Nat) (c : UInt8) (h : l[k]? = some c) (t : TypeId) (ht : Tryd.prog.underlying t = some .string) (W : World) :
    (Instr.index t (.string ⟨l.toArray⟩) (.int .i64 (k : Int))).run Tryd.prog W = .ok (.int .u8 (c.toNat : Int)) W := by
  obtain ⟨hk, hc⟩ := List.getElem?_eq_some_iff.1 h
  rw [run_index_string W t _ .i64 k ht, dif_pos ⟨by omega, by show (k : Int) < (l.length : Int); omega⟩]
  have : (⟨l.toArray⟩ : ByteArray)[(k : Int).toNat]'(by show (k : Int).toNat < l.length; omega) = l[k] := rfl
  rw [this, hc]
theorem parse_bd (l : List UInt8) : -1048576 ≤ (parseS l).1 ∧ (parseS l).1 ≤ 1048576 := by
  unfold parseS
  split
  · split
    · assumption
    · simp
  · simp
theorem sides_long (l : List UInt8) (w : World) (hl : l.length ≤ 9223372036854775807) (h : 19 < l.length) : Calls Tryd.prog 8 #[.string ⟨l.toArray⟩] w (Yes w) := by
  have t0 : decide ((19 : Int) < (l.length : Int)) = true := decide_eq_true (by omega)
  unfold Yes
  go_enter Tryd.func8, Tryd.ntmps8
  go_wp2_with fail
  go_ret
  exact ⟨rfl, Below.refl _ _⟩
theorem sides_sign (a : UInt8) (r : List UInt8) (w : World) (hl : r.length ≤ 18) (h : a = 45 ∨ a = 43) : Calls Tryd.prog 8 #[.string ⟨(a :: r).toArray⟩] w (Yes w) := by
  have t0 : decide ((19 : Int) < (r.length : Int) + 1) = false := decide_eq_false (by omega)
  have t1 : decide ((0 : Int) < (r.length : Int) + 1) = true := decide_eq_true (by omega)
  have g0 : (⟨(a :: r).toArray⟩ : ByteArray)[0]'(by simp [ByteArray.size]) = a := rfl
  have hx2 : (a.toNat : Int) = 45 ∨ (a.toNat : Int) = 43 := by rcases h with rfl | rfl <;> simp
  unfold Yes
  clear h
  rcases hx2 with h9 | h9
  · have t2 : ((a.toNat : Int) == 45) = true := by rw [h9]; rfl
    clear h9
    go_enter Tryd.func8, Tryd.ntmps8
    go_wp2_with fail
    go_ret
    exact ⟨rfl, Below.refl _ _⟩
  · have t2 : ((a.toNat : Int) == 45) = false := by rw [h9]; rfl
    have t3 : ((a.toNat : Int) == 43) = true := by rw [h9]; rfl
    clear h9
    go_enter Tryd.func8, Tryd.ntmps8
    go_wp2_with fail
    go_ret
    exact ⟨rfl, Below.refl _ _⟩

set_option maxHeartbeats 3200000 in
theorem sides_bad (l : List UInt8) (w : World) (hl : l.length ≤ 19) (hh : (l = [] ∨ ∃ a r, l = a :: r ∧ (a.toNat == 45) = false ∧ (a.toNat == 43) = false)) (hE : Env w) (p1 p2 q1 q2 : Int) (hp : parseS l = (p1, p2)) (hq : parseS (45 :: l) = (q1, q2)) (hr : parseS (43 :: l) = (p1, p2))
    (b1 : -1048576 ≤ p1 ∧ p1 ≤ 1048576) (b2 : -1048576 ≤ q1 ∧ q1 ≤ 1048576) (h : p2 ≠ 0) (h2 : q2 = p2) : Calls Tryd.prog 8 #[.string ⟨l.toArray⟩] w (Yes w) := by
  have K1 := Lib.hid (fun W hW => parse_any l W (by omega) hW)
  have K2 := Lib.hid (fun W hW => parse_any (45 :: l) W (by simp; omega) hW)
  have K3 := Lib.hid (fun W hW => parse_any (43 :: l) W (by simp; omega) hW)
  have K4 := Lib.hid (fun W hW => scanned_any W hW)
  rw [hp] at K1
  rw [hq] at K2
  rw [hr] at K3
  have HE := Lib.hid hE
  clear hE hp hq hr
  have A1 := fun W => run_cat (P := Tryd.prog) [45] l (by simp; omega) W
  have A2 := fun W => run_cat (P := Tryd.prog) [43] l (by simp; omega) W
  unfold Yes NE2 at *
  obtain ⟨b11, b12⟩ := b1
  obtain ⟨b21, b22⟩ := b2
  subst h2
  have t9 : (q2 != 0) = true := by simpa using h
  have t8 : (q2 == 0) = false := by simpa using h
  clear h
  rcases hh with rfl | ⟨a, r, rfl, ha, hb⟩
  · have t0 : decide ((19 : Int) < 0) = false := rfl
    go_enter Tryd.func8, Tryd.ntmps8
    go_wp2_with fail
    refine (K1.out _ HE.out).mono ?_
    clear K1
    rintro e w1 ⟨rfl, hb1⟩
    have HB := Lib.hid hb1; clear hb1
    go_wp2_with fail
    refine (K2.out _ (HE.out.on HB.out)).mono ?_
    clear K2
    rintro e w2 ⟨rfl, hb1⟩
    have HB := Lib.hid (HB.out.trans (hb1.mono HB.out.size)); clear hb1
    go_wp2_with fail
    refine (K3.out _ (HE.out.on HB.out)).mono ?_
    clear K3
    rintro e w3 ⟨rfl, hb1⟩
    have HB := Lib.hid (HB.out.trans (hb1.mono HB.out.size)); clear hb1
    go_wp2_with fail
    refine (K4.out _ (HE.out.on HB.out)).mono ?_
    clear K4
    rintro e w4 ⟨rfl, hb1⟩
    have HB := Lib.hid (HB.out.trans (hb1.mono HB.out.size)); clear hb1
    go_wp2_with fail
    go_ret
    exact ⟨rfl, HB.out⟩
  · have t0 : decide ((19 : Int) < (r.length : Int) + 1) = false := decide_eq_false (by simp at hl; omega)
    have t1 : decide ((0 : Int) < (r.length : Int) + 1) = true := decide_eq_true (by omega)
    have g0 : (⟨(a :: r).toArray⟩ : ByteArray)[0]'(by simp [ByteArray.size]) = a := rfl
    have ha' : ((a.toNat : Int) == 45) = false := by simp at ha ⊢; omega
    have hb' : ((a.toNat : Int) == 43) = false := by simp at hb ⊢; omega
    clear ha hb
    go_enter Tryd.func8, Tryd.ntmps8
    go_wp2_with fail
    refine (K1.out _ HE.out).mono ?_
    clear K1
    rintro e w1 ⟨rfl, hb1⟩
    have HB := Lib.hid hb1; clear hb1
    go_wp2_with fail
    refine (K2.out _ (HE.out.on HB.out)).mono ?_
    clear K2
    rintro e w2 ⟨rfl, hb1⟩
    have HB := Lib.hid (HB.out.trans (hb1.mono HB.out.size)); clear hb1
    go_wp2_with fail
    refine (K3.out _ (HE.out.on HB.out)).mono ?_
    clear K3
    rintro e w3 ⟨rfl, hb1⟩
    have HB := Lib.hid (HB.out.trans (hb1.mono HB.out.size)); clear hb1
    go_wp2_with fail
    refine (K4.out _ (HE.out.on HB.out)).mono ?_
    clear K4
    rintro e w4 ⟨rfl, hb1⟩
    have HB := Lib.hid (HB.out.trans (hb1.mono HB.out.size)); clear hb1
    go_wp2_with fail
    go_ret
    exact ⟨rfl, HB.out⟩

set_option maxHeartbeats 3200000 in
theorem sides_a (l : List UInt8) (w : World) (hl : l.length ≤ 19) (hh : (l = [] ∨ ∃ a r, l = a :: r ∧ (a.toNat == 45) = false ∧ (a.toNat == 43) = false)) (hE : Env w) (p1 p2 q1 q2 : Int) (hp : parseS l = (p1, p2)) (hq : parseS (45 :: l) = (q1, q2)) (hr : parseS (43 :: l) = (p1, p2))
    (b1 : -1048576 ≤ p1 ∧ p1 ≤ 1048576) (b2 : -1048576 ≤ q1 ∧ q1 ≤ 1048576) (h : p2 = 0) (h2 : q2 = 0) (h0 : 0 ≤ p1) (h3 : p1 + q1 = 0) : Calls Tryd.prog 8 #[.string ⟨l.toArray⟩] w (Yes w) := by
  have K1 := Lib.hid (fun W hW => parse_any l W (by omega) hW)
  have K2 := Lib.hid (fun W hW => parse_any (45 :: l) W (by simp; omega) hW)
  have K3 := Lib.hid (fun W hW => parse_any (43 :: l) W (by simp; omega) hW)
  have K4 := Lib.hid (fun W hW => scanned_any W hW)
  rw [hp] at K1
  rw [hq] at K2
  rw [hr] at K3
  have HE := Lib.hid hE
  clear hE hp hq hr
  have A1 := fun W => run_cat (P := Tryd.prog) [45] l (by simp; omega) W
  have A2 := fun W => run_cat (P := Tryd.prog) [43] l (by simp; omega) W
  unfold Yes NE2 at *
  obtain ⟨b11, b12⟩ := b1
  obtain ⟨b21, b22⟩ := b2
  subst h
  subst h2
  have t5 : decide (0 ≤ p1) = true := decide_eq_true h0
  obtain rfl : q1 = -p1 := by omega
  have t6 : (p1 + -p1 == 0) = true := by simp; omega
  clear h3
  rcases hh with rfl | ⟨a, r, rfl, ha, hb⟩
  · have t0 : decide ((19 : Int) < 0) = false := rfl
    go_enter Tryd.func8, Tryd.ntmps8
    go_wp2_with fail
    refine (K1.out _ HE.out).mono ?_
    clear K1
    rintro e w1 ⟨rfl, hb1⟩
    have HB := Lib.hid hb1; clear hb1
    go_wp2_with fail
    refine (K2.out _ (HE.out.on HB.out)).mono ?_
    clear K2
    rintro e w2 ⟨rfl, hb1⟩
    have HB := Lib.hid (HB.out.trans (hb1.mono HB.out.size)); clear hb1
    go_wp2_with fail
    refine (K3.out _ (HE.out.on HB.out)).mono ?_
    clear K3
    rintro e w3 ⟨rfl, hb1⟩
    have HB := Lib.hid (HB.out.trans (hb1.mono HB.out.size)); clear hb1
    go_wp2_with fail
    refine (K4.out _ (HE.out.on HB.out)).mono ?_
    clear K4
    rintro e w4 ⟨rfl, hb1⟩
    have HB := Lib.hid (HB.out.trans (hb1.mono HB.out.size)); clear hb1
    go_wp2_with fail
    go_ret
    exact ⟨rfl, HB.out⟩
  · have t0 : decide ((19 : Int) < (r.length : Int) + 1) = false := decide_eq_false (by simp at hl; omega)
    have t1 : decide ((0 : Int) < (r.length : Int) + 1) = true := decide_eq_true (by omega)
    have g0 : (⟨(a :: r).toArray⟩ : ByteArray)[0]'(by simp [ByteArray.size]) = a := rfl
    have ha' : ((a.toNat : Int) == 45) = false := by simp at ha ⊢; omega
    have hb' : ((a.toNat : Int) == 43) = false := by simp at hb ⊢; omega
    clear ha hb
    go_enter Tryd.func8, Tryd.ntmps8
    go_wp2_with fail
    refine (K1.out _ HE.out).mono ?_
    clear K1
    rintro e w1 ⟨rfl, hb1⟩
    have HB := Lib.hid hb1; clear hb1
    go_wp2_with fail
    refine (K2.out _ (HE.out.on HB.out)).mono ?_
    clear K2
    rintro e w2 ⟨rfl, hb1⟩
    have HB := Lib.hid (HB.out.trans (hb1.mono HB.out.size)); clear hb1
    go_wp2_with fail
    refine (K3.out _ (HE.out.on HB.out)).mono ?_
    clear K3
    rintro e w3 ⟨rfl, hb1⟩
    have HB := Lib.hid (HB.out.trans (hb1.mono HB.out.size)); clear hb1
    go_wp2_with fail
    refine (K4.out _ (HE.out.on HB.out)).mono ?_
    clear K4
    rintro e w4 ⟨rfl, hb1⟩
    have HB := Lib.hid (HB.out.trans (hb1.mono HB.out.size)); clear hb1
    go_wp2_with fail
    go_ret
    exact ⟨rfl, HB.out⟩

set_option maxHeartbeats 3200000 in
theorem sides_b (l : List UInt8) (w : World) (hl : l.length ≤ 19) (hh : (l = [] ∨ ∃ a r, l = a :: r ∧ (a.toNat == 45) = false ∧ (a.toNat == 43) = false)) (hE : Env w) (p1 p2 q1 q2 : Int) (hp : parseS l = (p1, p2)) (hq : parseS (45 :: l) = (q1, q2)) (hr : parseS (43 :: l) = (p1, p2))
    (b1 : -1048576 ≤ p1 ∧ p1 ≤ 1048576) (b2 : -1048576 ≤ q1 ∧ q1 ≤ 1048576) (h : p2 = 0) (h2 : q2 = 0) (h0 : 0 ≤ p1) (h3 : p1 + q1 = -1) : Calls Tryd.prog 8 #[.string ⟨l.toArray⟩] w (Yes w) := by
  have K1 := Lib.hid (fun W hW => parse_any l W (by omega) hW)
  have K2 := Lib.hid (fun W hW => parse_any (45 :: l) W (by simp; omega) hW)
  have K3 := Lib.hid (fun W hW => parse_any (43 :: l) W (by simp; omega) hW)
  have K4 := Lib.hid (fun W hW => scanned_any W hW)
  rw [hp] at K1
  rw [hq] at K2
  rw [hr] at K3
  have HE := Lib.hid hE
  clear hE hp hq hr
  have A1 := fun W => run_cat (P := Tryd.prog) [45] l (by simp; omega) W
  have A2 := fun W => run_cat (P := Tryd.prog) [43] l (by simp; omega) W
  unfold Yes NE2 at *
  obtain ⟨b11, b12⟩ := b1
  obtain ⟨b21, b22⟩ := b2
  subst h
  subst h2
  have t5 : decide (0 ≤ p1) = true := decide_eq_true h0
  have t6 : (p1 + q1 == 0) = false := by simp; omega
  have t7 : (p1 + q1 == -1) = true := by simp; omega
  clear h3
  rcases hh with rfl | ⟨a, r, rfl, ha, hb⟩
  · have t0 : decide ((19 : Int) < 0) = false := rfl
    go_enter Tryd.func8, Tryd.ntmps8
    go_wp2_with fail
    refine (K1.out _ HE.out).mono ?_
    clear K1
    rintro e w1 ⟨rfl, hb1⟩
    have HB := Lib.hid hb1; clear hb1
    go_wp2_with fail
    refine (K2.out _ (HE.out.on HB.out)).mono ?_
    clear K2
    rintro e w2 ⟨rfl, hb1⟩
    have HB := Lib.hid (HB.out.trans (hb1.mono HB.out.size)); clear hb1
    go_wp2_with fail
    refine (K3.out _ (HE.out.on HB.out)).mono ?_
    clear K3
    rintro e w3 ⟨rfl, hb1⟩
    have HB := Lib.hid (HB.out.trans (hb1.mono HB.out.size)); clear hb1
    go_wp2_with fail
    refine (K4.out _ (HE.out.on HB.out)).mono ?_
    clear K4
    rintro e w4 ⟨rfl, hb1⟩
    have HB := Lib.hid (HB.out.trans (hb1.mono HB.out.size)); clear hb1
    go_wp2_with fail
    go_ret
    exact ⟨rfl, HB.out⟩
  · have t0 : decide ((19 : Int) < (r.length : Int) + 1) = false := decide_eq_false (by simp at hl; omega)
    have t1 : decide ((0 : Int) < (r.length : Int) + 1) = true := decide_eq_true (by omega)
    have g0 : (⟨(a :: r).toArray⟩ : ByteArray)[0]'(by simp [ByteArray.size]) = a := rfl
    have ha' : ((a.toNat : Int) == 45) = false := by simp at ha ⊢; omega
    have hb' : ((a.toNat : Int) == 43) = false := by simp at hb ⊢; omega
    clear ha hb
    go_enter Tryd.func8, Tryd.ntmps8
    go_wp2_with fail
    refine (K1.out _ HE.out).mono ?_
    clear K1
    rintro e w1 ⟨rfl, hb1⟩
    have HB := Lib.hid hb1; clear hb1
    go_wp2_with fail
    refine (K2.out _ (HE.out.on HB.out)).mono ?_
    clear K2
    rintro e w2 ⟨rfl, hb1⟩
    have HB := Lib.hid (HB.out.trans (hb1.mono HB.out.size)); clear hb1
    go_wp2_with fail
    refine (K3.out _ (HE.out.on HB.out)).mono ?_
    clear K3
    rintro e w3 ⟨rfl, hb1⟩
    have HB := Lib.hid (HB.out.trans (hb1.mono HB.out.size)); clear hb1
    go_wp2_with fail
    refine (K4.out _ (HE.out.on HB.out)).mono ?_
    clear K4
    rintro e w4 ⟨rfl, hb1⟩
    have HB := Lib.hid (HB.out.trans (hb1.mono HB.out.size)); clear hb1
    go_wp2_with fail
    go_ret
    exact ⟨rfl, HB.out⟩

set_option maxHeartbeats 3200000 in
theorem sides_c (l : List UInt8) (w : World) (hl : l.length ≤ 19) (hh : (l = [] ∨ ∃ a r, l = a :: r ∧ (a.toNat == 45) = false ∧ (a.toNat == 43) = false)) (hE : Env w) (p1 p2 q1 q2 : Int) (hp : parseS l = (p1, p2)) (hq : parseS (45 :: l) = (q1, q2)) (hr : parseS (43 :: l) = (p1, p2))
    (b1 : -1048576 ≤ p1 ∧ p1 ≤ 1048576) (b2 : -1048576 ≤ q1 ∧ q1 ≤ 1048576) (h : p2 = 0) (h2 : q2 = 5) (h0 : p1 = 1048576) : Calls Tryd.prog 8 #[.string ⟨l.toArray⟩] w (Yes w) := by
  have K1 := Lib.hid (fun W hW => parse_any l W (by omega) hW)
  have K2 := Lib.hid (fun W hW => parse_any (45 :: l) W (by simp; omega) hW)
  have K3 := Lib.hid (fun W hW => parse_any (43 :: l) W (by simp; omega) hW)
  have K4 := Lib.hid (fun W hW => scanned_any W hW)
  rw [hp] at K1
  rw [hq] at K2
  rw [hr] at K3
  have HE := Lib.hid hE
  clear hE hp hq hr
  have A1 := fun W => run_cat (P := Tryd.prog) [45] l (by simp; omega) W
  have A2 := fun W => run_cat (P := Tryd.prog) [43] l (by simp; omega) W
  unfold Yes NE2 at *
  obtain ⟨b11, b12⟩ := b1
  obtain ⟨b21, b22⟩ := b2
  subst h
  subst h2
  subst h0
  rcases hh with rfl | ⟨a, r, rfl, ha, hb⟩
  · have t0 : decide ((19 : Int) < 0) = false := rfl
    go_enter Tryd.func8, Tryd.ntmps8
    go_wp2_with fail
    refine (K1.out _ HE.out).mono ?_
    clear K1
    rintro e w1 ⟨rfl, hb1⟩
    have HB := Lib.hid hb1; clear hb1
    go_wp2_with fail
    refine (K2.out _ (HE.out.on HB.out)).mono ?_
    clear K2
    rintro e w2 ⟨rfl, hb1⟩
    have HB := Lib.hid (HB.out.trans (hb1.mono HB.out.size)); clear hb1
    go_wp2_with fail
    refine (K3.out _ (HE.out.on HB.out)).mono ?_
    clear K3
    rintro e w3 ⟨rfl, hb1⟩
    have HB := Lib.hid (HB.out.trans (hb1.mono HB.out.size)); clear hb1
    go_wp2_with fail
    refine (K4.out _ (HE.out.on HB.out)).mono ?_
    clear K4
    rintro e w4 ⟨rfl, hb1⟩
    have HB := Lib.hid (HB.out.trans (hb1.mono HB.out.size)); clear hb1
    go_wp2_with fail
    go_ret
    exact ⟨rfl, HB.out⟩
  · have t0 : decide ((19 : Int) < (r.length : Int) + 1) = false := decide_eq_false (by simp at hl; omega)
    have t1 : decide ((0 : Int) < (r.length : Int) + 1) = true := decide_eq_true (by omega)
    have g0 : (⟨(a :: r).toArray⟩ : ByteArray)[0]'(by simp [ByteArray.size]) = a := rfl
    have ha' : ((a.toNat : Int) == 45) = false := by simp at ha ⊢; omega
    have hb' : ((a.toNat : Int) == 43) = false := by simp at hb ⊢; omega
    clear ha hb
    go_enter Tryd.func8, Tryd.ntmps8
    go_wp2_with fail
    refine (K1.out _ HE.out).mono ?_
    clear K1
    rintro e w1 ⟨rfl, hb1⟩
    have HB := Lib.hid hb1; clear hb1
    go_wp2_with fail
    refine (K2.out _ (HE.out.on HB.out)).mono ?_
    clear K2
    rintro e w2 ⟨rfl, hb1⟩
    have HB := Lib.hid (HB.out.trans (hb1.mono HB.out.size)); clear hb1
    go_wp2_with fail
    refine (K3.out _ (HE.out.on HB.out)).mono ?_
    clear K3
    rintro e w3 ⟨rfl, hb1⟩
    have HB := Lib.hid (HB.out.trans (hb1.mono HB.out.size)); clear hb1
    go_wp2_with fail
    refine (K4.out _ (HE.out.on HB.out)).mono ?_
    clear K4
    rintro e w4 ⟨rfl, hb1⟩
    have HB := Lib.hid (HB.out.trans (hb1.mono HB.out.size)); clear hb1
    go_wp2_with fail
    go_ret
    exact ⟨rfl, HB.out⟩

theorem sides_any (l : List UInt8) (w : World) (hl : l.length ≤ 9223372036854775807) (hE : Env w) : Calls Tryd.prog 8 #[.string ⟨l.toArray⟩] w (Yes w) := by
  by_cases h1 : 19 < l.length
  · exact sides_long l w hl h1
  · by_cases hs : l.head? = some 45 ∨ l.head? = some 43
    · cases l with
      | nil => simp at hs
      | cons a r =>
        simp only [List.head?_cons, Option.some.injEq] at hs
        simp only [List.length_cons] at h1
        exact sides_sign a r w (by omega) hs
    · have n1 : l.head? ≠ some 45 := fun h => hs (.inl h)
      have n2 : l.head? ≠ some 43 := fun h => hs (.inr h)
      have hh : (l = [] ∨ ∃ a r, l = a :: r ∧ (a.toNat == 45) = false ∧ (a.toNat == 43) = false) := by
        cases l with
        | nil => exact .inl rfl
        | cons a r =>
          refine .inr ⟨a, r, rfl, ?_, ?_⟩
          · rw [beq_eq_false_iff_ne]; intro e; exact n1 (by rw [show a = 45 from UInt8.toNat.inj e]; rfl)
          · rw [beq_eq_false_iff_ne]; intro e; exact n2 (by rw [show a = 43 from UInt8.toNat.inj e]; rfl)
      obtain ⟨s1, s2, s3⟩ := sides l n1 n2 (by omega)
      have b1 := parse_bd l
      have b2 := parse_bd (45 :: l)
      obtain ⟨p1, p2, hp⟩ : ∃ a b, parseS l = (a, b) := ⟨_, _, rfl⟩
      obtain ⟨q1, q2, hq⟩ : ∃ a b, parseS (45 :: l) = (a, b) := ⟨_, _, rfl⟩
      rw [hp] at s1 s2 s3 b1
      rw [hq] at s2 s3 b2
      simp only at s2 s3 b1 b2
      by_cases h0 : p2 = 0
      · obtain ⟨h3, ⟨h4, h5 | h5⟩ | ⟨h4, h5⟩⟩ := s3 h0
        · exact sides_a l w (by omega) hh hE p1 p2 q1 q2 hp hq s1 b1 b2 h0 h4 h3 h5
        · exact sides_b l w (by omega) hh hE p1 p2 q1 q2 hp hq s1 b1 b2 h0 h4 h3 h5
        · exact sides_c l w (by omega) hh hE p1 p2 q1 q2 hp hq s1 b1 b2 h0 h4 h5
      · exact sides_bad l w (by omega) hh hE p1 p2 q1 q2 hp hq s1 b1 b2 h0 (s2 h0)
theorem sides_row (s : ByteArray) (w : World) (hs : s.size ≤ maxLen) (hE : Env w) : Calls Tryd.prog 8 #[.string s] w fun e w' => e = .returned (.bool true) ∧ Below w.heap.size w w' := by
  have h := sides_any s.data.toList w (by unfold maxLen at hs; have e := Lib.size_eq s; omega) hE
  rw [Lib.mk_data] at h
  exact h
end Go.Proofs.YtkdffcoofijhkaaDoor
