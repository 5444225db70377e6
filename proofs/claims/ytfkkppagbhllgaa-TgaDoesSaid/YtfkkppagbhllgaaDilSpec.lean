/-
  WHAT THE PACKAGE dilate COMPUTES, as plain functions on lists. No program in sight.
-/
import Derived.Test.YtfkkppagbhllgaaPt
set_option linter.unusedVariables false
set_option linter.unusedSimpArgs false
namespace Go.Proofs.Ytfkkppagbhllgaa

/-- how far two numbers are apart, at most a thousand -/
def gapS (a b : Int) : Int := if a < b then min (b - a) 1000 else min (a - b) 1000
def farS (a b : Pt) : Int := max (gapS a.x b.x) (gapS a.y b.y)
theorem gapS_range (a b : Int) : 0 ≤ gapS a b ∧ gapS a b ≤ 1000 := by unfold gapS; split <;> omega
theorem farS_range (a b : Pt) : 0 ≤ farS a b ∧ farS a b ≤ 1000 := by
  have := gapS_range a.x b.x
  have := gapS_range a.y b.y
  unfold farS; omega
theorem gapS_comm (a b : Int) : gapS a b = gapS b a := by unfold gapS; split <;> split <;> omega
theorem farS_comm (a b : Pt) : farS a b = farS b a := by unfold farS; rw [gapS_comm a.x, gapS_comm a.y]
theorem gapS_tri (a b c : Int) : gapS a c ≤ gapS a b + gapS b c := by unfold gapS; split <;> split <;> split <;> omega
theorem farS_tri (a b c : Pt) : farS a c ≤ farS a b + farS b c := by
  have := gapS_tri a.x b.x c.x
  have := gapS_tri a.y b.y c.y
  unfold farS; omega
theorem gapS_zero (a b : Int) : gapS a b = 0 ↔ a = b := by unfold gapS; split <;> omega
theorem farS_zero (a b : Pt) : farS a b = 0 ↔ a = b := by
  have h1 := gapS_zero a.x b.x
  have h2 := gapS_zero a.y b.y
  have h3 := gapS_range a.x b.x
  have h4 := gapS_range a.y b.y
  obtain ⟨a1, a2⟩ := a
  obtain ⟨b1, b2⟩ := b
  unfold farS
  simp only at *
  rw [Pt.mk.injEq]
  omega

/-- -1 to 255 -/
def grey (x : Int) : Bool := decide (-1 ≤ x) && decide (x ≤ 255)
theorem grey_iff {x : Int} : grey x = true ↔ -1 ≤ x ∧ x ≤ 255 := by simp [grey]
/-- values in rows of w -/
def levelOk (w : Int) (v : List Int) : Bool :=
  decide (1 ≤ w) && decide (w ≤ 256) && decide ((v.length : Int) % w = 0) && decide ((v.length : Int) ≤ w * 256) && v.all grey
theorem levelOk_iff {w : Int} {v : List Int} : levelOk w v = true ↔ 1 ≤ w ∧ w ≤ 256 ∧ (v.length : Int) % w = 0 ∧ (v.length : Int) ≤ w * 256 ∧ ∀ x ∈ v, grey x = true := by
  simp [levelOk, and_assoc]
def padOk (pad : Int) : Bool := decide (0 ≤ pad) && decide (pad ≤ 8)
theorem padOk_iff {x : Int} : padOk x = true ↔ 0 ≤ x ∧ x ≤ 8 := by simp [padOk]

/-- the nearest with a value, of the first k texels: which, and how far -/
def nearTo (w : Nat) (v : List Int) (x y pad : Int) : Nat → Pt × Int
  | 0 => (⟨0, 0⟩, 1000)
  | k + 1 =>
    let s := nearTo w v x y pad k
    let t : Pt := ⟨(k % w : Nat), (k / w : Nat)⟩
    if 0 ≤ v.getD k (-1) ∧ farS ⟨x, y⟩ t ≤ pad ∧ farS ⟨x, y⟩ t < s.2 then (t, farS ⟨x, y⟩ t) else s
def nearS (w : Nat) (v : List Int) (x y pad : Int) : Pt × Bool := ((nearTo w v x y pad v.length).1, decide ((nearTo w v x y pad v.length).2 < 1000))

/-- Near, refusals and all -/
def nearOk (w pad : Int) (v : List Int) (x y : Int) : Bool := levelOk w v && padOk pad && (decide (0 ≤ x) && decide (x < w) && decide (0 ≤ y) && decide (y < (v.length : Int) / w))
def nearF (w pad : Int) (v : List Int) (x y : Int) : Pt × Bool := if nearOk w pad v x y then nearS w.toNat v x y pad else (⟨0, 0⟩, false)

/-- what lies at a texel behind the spreading -/
def spreadAt (w : Nat) (v : List Int) (pad : Int) (i : Nat) : Int :=
  let t := nearS w v (i % w : Nat) (i / w : Nat) pad
  if t.2 then v.getD (t.1.y * w + t.1.x).toNat (-1) else v.getD i (-1)
def spreadS (w : Nat) (v : List Int) (pad : Int) : List Int := (List.range v.length).map (spreadAt w v pad)
def spreadF (w pad : Int) (v : List Int) : List Int × Int := if levelOk w v && padOk pad then (spreadS w.toNat v pad, 0) else ([], 1)

/-- 0 to 255 -/
def backOk (x : Int) : Bool := decide (0 ≤ x) && decide (x ≤ 255)
theorem backOk_iff {x : Int} : backOk x = true ↔ 0 ≤ x ∧ x ≤ 255 := by simp [backOk]
def fillS (v : List Int) (back : Int) : List Int := v.map fun n => if n = -1 then back else n
def fillF (v : List Int) (back : Int) : List Int × Int := if backOk back && v.all grey then (fillS v back, 0) else ([], 1)
theorem fillF_no {v : List Int} {back : Int} (h : (backOk back && v.all grey) = false) : fillF v back = ([], 1) := by simp [fillF, h]
theorem fillF_yes {v : List Int} {back : Int} (h : (backOk back && v.all grey) = true) : fillF v back = (fillS v back, 0) := by unfold fillF; rw [h]; rfl

/-- a row whose first k places are told by f, the others by v -/
def mixI (f : Nat → Int) (v : List Int) (k : Nat) : List Int := (List.range k).map f ++ v.drop k
theorem mixI_zero (f : Nat → Int) (v : List Int) : mixI f v 0 = v := by simp [mixI]
theorem mixI_length (f : Nat → Int) (v : List Int) (k : Nat) (hk : k ≤ v.length) : (mixI f v k).length = v.length := by simp [mixI]; omega
theorem mixI_get (f : Nat → Int) (v : List Int) (k : Nat) : (mixI f v k)[k]? = v[k]? := by
  unfold mixI
  rw [List.getElem?_append_right (by simp)]
  simp
theorem mixI_set (f : Nat → Int) (v : List Int) (k : Nat) (hk : k < v.length) : (mixI f v k).set k (f k) = mixI f v (k + 1) := by
  refine List.ext_getElem? fun i => ?_
  rw [List.getElem?_set, mixI_length f v k (by omega)]
  unfold mixI
  by_cases h : k = i
  · subst h
    rw [if_pos rfl, if_pos hk, List.getElem?_append_left (by simp)]
    simp
  · rw [if_neg h]
    by_cases h2 : i < k
    · rw [List.getElem?_append_left (by simpa using h2), List.getElem?_append_left (by simp; omega)]
      simp [h2, show i < k + 1 by omega]
    · rw [List.getElem?_append_right (by simp; omega), List.getElem?_append_right (by simp; omega)]
      simp only [List.length_map, List.length_range, List.getElem?_drop]
      congr 1; omega
theorem mixI_same (f : Nat → Int) (v : List Int) (k : Nat) (hk : v[k]? = some (f k)) : mixI f v k = mixI f v (k + 1) := by
  have hl := (List.getElem?_eq_some_iff.1 hk).1
  rw [← mixI_set f v k hl]
  refine (List.ext_getElem? fun i => ?_)
  rw [List.getElem?_set]
  by_cases h : k = i
  · subst h; rw [if_pos rfl, if_pos (by rw [mixI_length f v k (by omega)]; exact hl), mixI_get, hk]
  · rw [if_neg h]
theorem mixI_done (f : Nat → Int) (v : List Int) : mixI f v v.length = (List.range v.length).map f := by simp [mixI]
def fillAt (v : List Int) (back : Int) (i : Nat) : Int := if v.getD i (-1) = -1 then back else v.getD i (-1)
theorem fillS_range (v : List Int) (back : Int) : (List.range v.length).map (fillAt v back) = fillS v back := by
  refine List.ext_getElem? fun i => ?_
  simp only [fillS, List.getElem?_map, fillAt]
  by_cases h : i < v.length
  · rw [List.getElem?_range h, List.getElem?_eq_getElem h]
    simp only [Option.map_some, fillAt, List.getD_eq_getElem?_getD, List.getElem?_eq_getElem h, Option.getD_some]
  · rw [List.getElem?_eq_none (by simp; omega), List.getElem?_eq_none (by omega)]; rfl

example : spreadF 4 1 [-1, -1, -1, 9, -1, -1, -1, -1, 5, -1, -1, -1] = ([-1, -1, 9, 9, 5, 5, 9, 9, 5, 5, -1, -1], 0) := by decide +kernel
example : nearF 4 8 [-1, -1, -1, 9, -1, -1, -1, -1, 5, -1, -1, -1] 1 1 = (⟨0, 2⟩, true) := by decide +kernel
end Go.Proofs.Ytfkkppagbhllgaa
