/-
  WHAT THE PACKAGE shelf COMPUTES, as plain functions on lists. No program in sight.
-/
import Derived.Test.YtneoacbacflehaaPt
set_option linter.unusedVariables false
set_option linter.unusedSimpArgs false
namespace Go.Proofs.Ytneoacbacflehaa

/-- 1 to 256 -/
def texel (x : Int) : Bool := decide (1 ≤ x) && decide (x ≤ 256)
theorem texel_lo {x : Int} (h1 : x < 1) : texel x = false := by simp [texel]; omega
theorem texel_hi {x : Int} (h1 : 256 < x) : texel x = false := by simp [texel]; omega
theorem texel_of {x : Int} (h1 : 1 ≤ x) (h2 : x ≤ 256) : texel x = true := by simp [texel, h1, h2]
theorem texel_iff {x : Int} : texel x = true ↔ 1 ≤ x ∧ x ≤ 256 := by simp [texel]
/-- 0 to 256 -/
def level (x : Int) : Bool := decide (0 ≤ x) && decide (x ≤ 256)
theorem level_iff {x : Int} : level x = true ↔ 0 ≤ x ∧ x ≤ 256 := by simp [level]
/-- a sky -/
def skyOk (sky : List Int) : Bool := decide (sky.length ≤ 256) && sky.all level
theorem skyOk_iff {sky : List Int} : skyOk sky = true ↔ sky.length ≤ 256 ∧ ∀ x ∈ sky, 0 ≤ x ∧ x ≤ 256 := by
  simp [skyOk, level]

/-- the greatest of a list that is not empty -/
def maxL : List Int → Int
  | [] => 0
  | x :: xs => xs.foldl max x
/-- the greatest of n columns from k on -/
def hgt (sky : List Int) (k n : Nat) : Int := maxL ((sky.drop k).take n)

/-- the search for a place, after k columns: at, low, found -/
def findTo (sky : List Int) (n : Nat) (h most : Int) : Nat → Int × Int × Bool
  | 0 => (0, 0, false)
  | k + 1 =>
    let s := findTo sky n h most k
    if hgt sky k n + h ≤ most ∧ (s.2.2 = false ∨ hgt sky k n < s.2.1) then ((k : Int), hgt sky k n, true) else s
def findS (sky : List Int) (w h most : Int) : Int × Int × Bool := findTo sky w.toNat h most (sky.length + 1 - w.toNat)
def placeS (sky : List Int) (w h most : Int) : Int × Int × Bool :=
  if skyOk sky && (texel w && texel h && texel most) then findS sky w h most else (0, 0, false)
theorem placeS_no {sky : List Int} {w h most : Int} (e : (skyOk sky && (texel w && texel h && texel most)) = false) : placeS sky w h most = (0, 0, false) := by
  unfold placeS; rw [e]; rfl
theorem placeS_yes {sky : List Int} {w h most : Int} (e : (skyOk sky && (texel w && texel h && texel most)) = true) : placeS sky w h most = findS sky w h most := by
  unfold placeS; rw [e]; rfl

/-- k columns from x on, lifted -/
def riseTo (sky : List Int) (x : Nat) (to : Int) : Nat → List Int
  | 0 => sky
  | k + 1 => (riseTo sky x to k).set (x + k) to
theorem riseTo_length (sky : List Int) (x : Nat) (to : Int) (k : Nat) : (riseTo sky x to k).length = sky.length := by
  induction k with
  | zero => rfl
  | succ k ih => simp [riseTo, ih]
theorem riseTo_get (sky : List Int) (x : Nat) (to : Int) (k i : Nat) (hi : i < sky.length) : (riseTo sky x to k)[i]? = if x ≤ i ∧ i < x + k then some to else sky[i]? := by
  induction k with
  | zero => rw [if_neg (by omega)]; rfl
  | succ k ih =>
    simp only [riseTo, List.getElem?_set, riseTo_length, ih]
    by_cases h : x + k = i
    · subst h; rw [if_pos rfl, if_pos hi, if_pos (by omega)]
    · rw [if_neg h]
      by_cases h2 : x ≤ i ∧ i < x + k
      · rw [if_pos h2, if_pos (by omega)]
      · rw [if_neg h2, if_neg (by omega)]
def riseOk (sky : List Int) (r : Rc) : Bool :=
  skyOk sky && (texel r.w && texel r.h) && (decide (0 ≤ r.x) && decide (r.x ≤ sky.length - r.w) && (decide (0 ≤ r.y) && decide (r.y ≤ 256 - r.h)))
def riseS (sky : List Int) (r : Rc) : List Int := riseTo sky r.x.toNat (r.y + r.h) r.w.toNat
/-- the sky behind it and the error's number -/
def riseF (sky : List Int) (r : Rc) : List Int × Int := if riseOk sky r then (riseS sky r, 0) else ([], 1)
theorem riseF_no {sky : List Int} {r : Rc} (h : riseOk sky r = false) : riseF sky r = ([], 1) := by simp [riseF, h]
theorem riseF_yes {sky : List Int} {r : Rc} (h : riseOk sky r = true) : riseF sky r = (riseS sky r, 0) := by simp [riseF, h]

/-- the tests ahead of a lift, in the code's order -/
theorem riseOk_iff {sky : List Int} {r : Rc} : riseOk sky r = true ↔ skyOk sky = true ∧ (texel r.w = true ∧ texel r.h = true) ∧ 0 ≤ r.x ∧ r.x ≤ sky.length - r.w ∧ 0 ≤ r.y ∧ r.y ≤ 256 - r.h := by
  simp [riseOk, and_assoc]
theorem riseOk_no {sky : List Int} {r : Rc} (h : ¬ (skyOk sky = true ∧ (texel r.w = true ∧ texel r.h = true) ∧ 0 ≤ r.x ∧ r.x ≤ sky.length - r.w ∧ 0 ≤ r.y ∧ r.y ≤ 256 - r.h)) : riseOk sky r = false := by
  rw [← riseOk_iff] at h; simpa using h

/-- the packing: the rectangles so far and the sky; none: there is no place -/
def packGo (h : Int) : List Pt → List Int → List Rc → Option (List Rc)
  | [], _, out => some out
  | s :: l, sky, out =>
    if (findS sky s.x s.y h).2.2 = true then
      packGo h l (riseTo sky (findS sky s.x s.y h).1.toNat ((findS sky s.x s.y h).2.1 + s.y) s.x.toNat) (out ++ [⟨(findS sky s.x s.y h).1, (findS sky s.x s.y h).2.1, s.x, s.y⟩])
    else none
def sizeOk (s : Pt) : Bool := texel s.x && texel s.y
def packOk (w h : Int) (sizes : List Pt) : Bool := (texel w && texel h) && sizes.all sizeOk
/-- the rectangles and the error's number -/
def packS (w h : Int) (sizes : List Pt) : List Rc × Int :=
  if packOk w h sizes then
    match packGo h sizes (List.replicate w.toNat 0) [] with
    | some l => (l, 0)
    | none => ([], 9)
  else ([], 1)

/-- b is at least a and n -/
def freeS (x n y m : Int) : Bool := decide (n ≤ 0) || decide (m ≤ 0) || decide (x + n ≤ y) || decide (y + m ≤ x)
def apartS (a b : Rc) : Bool := freeS a.x a.w b.x b.w || freeS a.y a.h b.y b.h
def insideS (w h : Int) (r : Rc) : Bool := decide (1 ≤ r.w) && decide (1 ≤ r.h) && decide (0 ≤ r.x) && decide (0 ≤ r.y) && decide (r.w ≤ w) && decide (r.h ≤ h) && decide (r.x ≤ w - r.w) && decide (r.y ≤ h - r.h)
/-- all of them inside, each apart from those ahead -/
def isTo (w h : Int) (l : List Rc) : Nat → Bool
  | 0 => true
  | k + 1 => isTo w h l k && (match l[k]? with | some r => insideS w h r && (l.take k).all (fun o => apartS o r) | none => true)
theorem isTo_mono (w h : Int) (l : List Rc) {k m : Nat} (hk : k ≤ m) (hf : isTo w h l k = false) : isTo w h l m = false := by
  induction m with
  | zero => rw [show k = 0 by omega] at hf; exact hf
  | succ m ih =>
    rcases Nat.lt_or_ge k (m + 1) with h1 | h1
    · simp only [isTo]; rw [ih (by omega)]; rfl
    · rw [show k = m + 1 by omega] at hf; exact hf
theorem insideS_iff (w h : Int) (r : Rc) : insideS w h r = true ↔ 1 ≤ r.w ∧ 1 ≤ r.h ∧ 0 ≤ r.x ∧ 0 ≤ r.y ∧ r.w ≤ w ∧ r.h ≤ h ∧ r.x ≤ w - r.w ∧ r.y ≤ h - r.h := by
  simp [insideS, and_assoc]
def isS (w h : Int) (l : List Rc) : Bool := isTo w h l l.length

/-! ### ranges, for the walks -/
theorem le_foldl_max (l : List Int) (a : Int) : a ≤ l.foldl max a ∧ ∀ x ∈ l, x ≤ l.foldl max a := by
  induction l generalizing a with
  | nil => simp
  | cons b l ih =>
    simp only [List.foldl_cons, List.mem_cons, forall_eq_or_imp]
    have := ih (max a b)
    exact ⟨by omega, by omega, this.2⟩
theorem foldl_max_mem (l : List Int) (a : Int) : l.foldl max a ∈ a :: l := by
  induction l generalizing a with
  | nil => simp
  | cons b l ih =>
    simp only [List.foldl_cons]
    have := ih (max a b)
    simp only [List.mem_cons] at this ⊢
    rcases this with h | h
    · by_cases hab : a ≤ b
      · rw [Int.max_eq_right hab] at h ⊢; exact .inr (.inl h)
      · rw [Int.max_eq_left (by omega)] at h ⊢; exact .inl h
    · exact .inr (.inr h)
theorem maxL_mem {l : List Int} (h : l ≠ []) : maxL l ∈ l := by
  cases l with
  | nil => exact absurd rfl h
  | cons a l => exact foldl_max_mem l a
theorem le_maxL {l : List Int} {x : Int} (h : x ∈ l) : x ≤ maxL l := by
  cases l with
  | nil => simp at h
  | cons a l =>
    have := le_foldl_max l a
    rcases List.mem_cons.1 h with rfl | h
    · exact this.1
    · exact this.2 x h
theorem hgt_mem {sky : List Int} {k n : Nat} (hn : 0 < n) (hk : k + n ≤ sky.length) : hgt sky k n ∈ sky := by
  have h : (sky.drop k).take n ≠ [] := fun e => by
    have := congrArg List.length e
    simp only [List.length_take, List.length_drop, List.length_nil] at this; omega
  exact List.mem_of_mem_drop (List.mem_of_mem_take (maxL_mem h))
/-- what the search holds: at is a column, low a height -/
theorem findTo_range (sky : List Int) (n : Nat) (h most : Int) (hn : 0 < n) (hs : ∀ x ∈ sky, 0 ≤ x ∧ x ≤ 256) (k : Nat) (hk : k + n ≤ sky.length + 1) :
    0 ≤ (findTo sky n h most k).1 ∧ (findTo sky n h most k).1 ≤ k ∧ 0 ≤ (findTo sky n h most k).2.1 ∧ (findTo sky n h most k).2.1 ≤ 256 ∧
      ((findTo sky n h most k).2.2 = true → (findTo sky n h most k).1 + n ≤ sky.length ∧ (findTo sky n h most k).2.1 + h ≤ most) := by
  induction k with
  | zero => simp [findTo]
  | succ k ih =>
    have ih := ih (by omega)
    have hm := hs _ (hgt_mem (sky := sky) (k := k) hn (by omega))
    simp only [findTo]
    split
    · rename_i hc
      refine ⟨by simp, by simp; omega, hm.1, hm.2, fun _ => ⟨?_, hc.1⟩⟩
      simp; omega
    · exact ⟨ih.1, by omega, ih.2.2.1, ih.2.2.2.1, ih.2.2.2.2⟩
theorem findS_range (sky : List Int) (w h most : Int) (hw : 1 ≤ w) (hs : ∀ x ∈ sky, 0 ≤ x ∧ x ≤ 256) :
    0 ≤ (findS sky w h most).1 ∧ (findS sky w h most).1 ≤ sky.length ∧ 0 ≤ (findS sky w h most).2.1 ∧ (findS sky w h most).2.1 ≤ 256 ∧
      ((findS sky w h most).2.2 = true → (findS sky w h most).1 + w ≤ sky.length ∧ (findS sky w h most).2.1 + h ≤ most) := by
  obtain ⟨q, rfl⟩ : ∃ q : Nat, w = (q : Int) := ⟨w.toNat, by omega⟩
  unfold findS
  rw [Int.toNat_natCast]
  by_cases hq : q ≤ sky.length + 1
  · have := findTo_range sky q h most (by omega) hs (sky.length + 1 - q) (by omega)
    exact ⟨this.1, by omega, this.2.2.1, this.2.2.2.1, this.2.2.2.2⟩
  · rw [show sky.length + 1 - q = 0 by omega]
    simp [findTo]
theorem mem_riseTo {sky : List Int} {x : Nat} {to : Int} {k : Nat} {y : Int} (h : y ∈ riseTo sky x to k) : y = to ∨ y ∈ sky := by
  induction k with
  | zero => exact .inr h
  | succ k ih =>
    rcases List.mem_or_eq_of_mem_set h with h | h
    · exact ih h
    · exact .inl h
theorem packGo_cons (h : Int) (s : Pt) (l : List Pt) (sky : List Int) (out : List Rc) {a b : Int} {f : Bool} (hf : findS sky s.x s.y h = (a, b, f)) :
    packGo h (s :: l) sky out = if f = true then packGo h l (riseTo sky a.toNat (b + s.y) s.x.toNat) (out ++ [⟨a, b, s.x, s.y⟩]) else none := by
  simp only [packGo, hf]
theorem packS_no {w h : Int} {ps : List Pt} (e : packOk w h ps = false) : packS w h ps = ([], 1) := by simp [packS, e]
theorem packS_full {w h : Int} {ps : List Pt} (e : packOk w h ps = true) (g : packGo h ps (List.replicate w.toNat 0) [] = none) : packS w h ps = ([], 9) := by simp [packS, e, g]
theorem packS_yes {w h : Int} {ps : List Pt} {l : List Rc} (e : packOk w h ps = true) (g : packGo h ps (List.replicate w.toNat 0) [] = some l) : packS w h ps = (l, 0) := by simp [packS, e, g]
end Go.Proofs.Ytneoacbacflehaa
