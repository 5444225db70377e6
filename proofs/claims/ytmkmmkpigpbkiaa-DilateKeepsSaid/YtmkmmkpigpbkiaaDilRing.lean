/-
  THE RINGS ROUND A TEXEL, AND THE NEAREST ONE WITH A VALUE. No program in sight.
-/
import Derived.Test.YtmkmmkpigpbkiaaDilSpec
set_option linter.unusedVariables false
set_option linter.unusedSimpArgs false
namespace Go.Proofs.Ytmkmmkpigpbkiaa

def stepR (y far v : Int) : Int := if 0 < far ∧ y - far < v ∧ v < y + far then 2 * far else 1
def cntR (far s : Int) : Nat := if s = 1 then (2 * far + 1).toNat else 2
def uAt (x far s : Int) (i : Nat) : Int := x - far + i * s
def inW (w v u : Int) : Option Pt := if 0 ≤ u ∧ u < w then some ⟨u, v⟩ else none
def rowTo (x far w v s : Int) (i : Nat) : List Pt := (List.range i).filterMap fun k : Nat => inW w v (uAt x far s k)
def rowL (x y far w v : Int) : List Pt := rowTo x far w v (stepR y far v) (cntR far (stepR y far v))
def lowV (y far : Int) : Int := max (y - far) 0
def cntV (y far h : Int) : Nat := (min (y + far) (h - 1) - lowV y far + 1).toNat
def upTo (x y far w : Int) (j : Nat) : List Pt := (List.range j).flatMap fun i : Nat => rowL x y far w (lowV y far + (i : Int))
def ringL (x y far w h : Int) : List Pt := upTo x y far w (cntV y far h)

theorem rowTo_succ (x far w v s : Int) (i : Nat) : rowTo x far w v s (i + 1) = rowTo x far w v s i ++ (inW w v (uAt x far s i)).toList := by
  unfold rowTo
  rw [List.range_succ, List.filterMap_append]
  cases h : inW w v (uAt x far s i) <;> simp [List.filterMap_cons, h]
theorem upTo_succ (x y far w : Int) (j : Nat) : upTo x y far w (j + 1) = upTo x y far w j ++ rowL x y far w (lowV y far + j) := by
  unfold upTo
  rw [List.range_succ, List.flatMap_append]
  simp
theorem rowTo_prefix (x far w v s : Int) {i m : Nat} (h : i ≤ m) : rowTo x far w v s i <+: rowTo x far w v s m := by
  induction m with
  | zero => rw [show i = 0 by omega]; exact List.prefix_refl _
  | succ m ih =>
    rcases Nat.lt_or_ge i (m + 1) with h1 | h1
    · exact (ih (by omega)).trans (by rw [rowTo_succ]; exact List.prefix_append _ _)
    · rw [show i = m + 1 by omega]; exact List.prefix_refl _
theorem upTo_prefix (x y far w : Int) {i m : Nat} (h : i ≤ m) : upTo x y far w i <+: upTo x y far w m := by
  induction m with
  | zero => rw [show i = 0 by omega]; exact List.prefix_refl _
  | succ m ih =>
    rcases Nat.lt_or_ge i (m + 1) with h1 | h1
    · exact (ih (by omega)).trans (by rw [upTo_succ]; exact List.prefix_append _ _)
    · rw [show i = m + 1 by omega]; exact List.prefix_refl _
/-- What has come, and one more, is a beginning of the ring. -/
theorem ring_prefix (x y far w h : Int) {j i : Nat} (hj : j < cntV y far h) (hi : i ≤ cntR far (stepR y far (lowV y far + j))) :
    upTo x y far w j ++ rowTo x far w (lowV y far + j) (stepR y far (lowV y far + j)) i <+: ringL x y far w h := by
  refine List.IsPrefix.trans ?_ (upTo_prefix x y far w (show j + 1 ≤ cntV y far h by omega))
  rw [upTo_succ]
  exact (List.prefix_append_right_inj _).2 (rowTo_prefix x far w _ _ hi)

theorem inW_some {w v u : Int} {t : Pt} : inW w v u = some t ↔ 0 ≤ u ∧ u < w ∧ t = ⟨u, v⟩ := by
  unfold inW
  split
  · rename_i h; simp only [Option.some.injEq]; exact ⟨fun e => ⟨h.1, h.2, e.symm⟩, fun e => e.2.2.symm⟩
  · rename_i h; simp only [reduceCtorEq, false_iff]; exact fun e => h ⟨e.1, e.2.1⟩
theorem mem_rowTo {x far w v s : Int} {i : Nat} {t : Pt} : t ∈ rowTo x far w v s i ↔ ∃ k, k < i ∧ t.x = uAt x far s k ∧ t.y = v ∧ 0 ≤ t.x ∧ t.x < w := by
  obtain ⟨a, b⟩ := t
  unfold rowTo
  simp only [List.mem_filterMap, List.mem_range, inW_some, Pt.mk.injEq]
  constructor
  · rintro ⟨k, hk, h1, h2, rfl, rfl⟩; exact ⟨k, hk, rfl, rfl, h1, h2⟩
  · rintro ⟨k, hk, rfl, rfl, h1, h2⟩; exact ⟨k, hk, h1, h2, rfl, rfl⟩
theorem mem_rowL {x y far w v : Int} {t : Pt} (hf : 0 ≤ far) (hv1 : y - far ≤ v) (hv2 : v ≤ y + far) :
    t ∈ rowL x y far w v ↔ t.y = v ∧ 0 ≤ t.x ∧ t.x < w ∧ x - far ≤ t.x ∧ t.x ≤ x + far ∧ (v = y - far ∨ v = y + far ∨ t.x = x - far ∨ t.x = x + far) := by
  unfold rowL
  rw [mem_rowTo]
  unfold stepR
  split
  · rename_i h
    have hs : cntR far (2 * far) = 2 := by unfold cntR; rw [if_neg (by omega)]
    rw [hs]
    constructor
    · rintro ⟨k, hk, h1, h2, h3, h4⟩
      unfold uAt at h1
      rcases (show k = 0 ∨ k = 1 by omega) with rfl | rfl
      · refine ⟨h2, h3, h4, by omega, by omega, ?_⟩; omega
      · refine ⟨h2, h3, h4, by omega, by omega, ?_⟩; omega
    · rintro ⟨h1, h2, h3, h4, h5, h6⟩
      rcases (show t.x = x - far ∨ t.x = x + far by omega) with h7 | h7
      · exact ⟨0, by omega, by unfold uAt; omega, h1, h2, h3⟩
      · exact ⟨1, by omega, by unfold uAt; omega, h1, h2, h3⟩
  · rename_i h
    have hs : cntR far 1 = (2 * far + 1).toNat := by unfold cntR; rw [if_pos rfl]
    rw [hs]
    constructor
    · rintro ⟨k, hk, h1, h2, h3, h4⟩
      unfold uAt at h1
      refine ⟨h2, h3, h4, by omega, by omega, ?_⟩; omega
    · rintro ⟨h1, h2, h3, h4, h5, h6⟩
      exact ⟨(t.x - (x - far)).toNat, by omega, by unfold uAt; omega, h1, h2, h3⟩
theorem mem_ringL {x y far w h : Int} {t : Pt} (hf : 0 ≤ far) :
    t ∈ ringL x y far w h ↔ 0 ≤ t.x ∧ t.x < w ∧ 0 ≤ t.y ∧ t.y < h ∧ x - far ≤ t.x ∧ t.x ≤ x + far ∧ y - far ≤ t.y ∧ t.y ≤ y + far ∧ (t.y = y - far ∨ t.y = y + far ∨ t.x = x - far ∨ t.x = x + far) := by
  unfold ringL upTo
  simp only [List.mem_flatMap, List.mem_range]
  constructor
  · rintro ⟨j, hj, hm⟩
    unfold cntV at hj
    have hl : y - far ≤ lowV y far ∧ 0 ≤ lowV y far := by unfold lowV; omega
    rw [mem_rowL hf (by omega) (by omega)] at hm
    omega
  · rintro ⟨h1, h2, h3, h4, h5, h6, h7, h8, h9⟩
    have hl : lowV y far ≤ t.y := by unfold lowV; omega
    refine ⟨(t.y - lowV y far).toNat, by unfold cntV; omega, ?_⟩
    rw [show lowV y far + ((t.y - lowV y far).toNat : Int) = t.y by omega]
    rw [mem_rowL hf (by omega) (by omega)]
    exact ⟨rfl, h1, h2, h5, h6, h9⟩

/-- the rings go row by row -/
def Ahead (a b : Pt) : Prop := a.y < b.y ∨ a.y = b.y ∧ a.x < b.x
theorem rowTo_pairwise (x far w v s : Int) (hs : 0 < s) (i : Nat) : (rowTo x far w v s i).Pairwise Ahead := by
  induction i with
  | zero => exact List.Pairwise.nil
  | succ i ih =>
    rw [rowTo_succ, List.pairwise_append]
    refine ⟨ih, ?_, fun a ha b hb => ?_⟩
    · cases inW w v (uAt x far s i) <;> simp
    · rw [Option.mem_toList] at hb
      obtain ⟨_, _, rfl⟩ := inW_some.1 hb
      obtain ⟨k, hk, h1, h2, _⟩ := mem_rowTo.1 ha
      right
      refine ⟨h2, ?_⟩
      rw [h1]
      unfold uAt
      have : (k : Int) * s < (i : Int) * s := Int.mul_lt_mul_of_pos_right (by omega) hs
      simp only; omega
theorem stepR_pos (y far v : Int) : 0 < stepR y far v := by unfold stepR; split <;> omega
theorem upTo_pairwise (x y far w : Int) (j : Nat) : (upTo x y far w j).Pairwise Ahead := by
  induction j with
  | zero => exact List.Pairwise.nil
  | succ j ih =>
    rw [upTo_succ, List.pairwise_append]
    refine ⟨ih, rowTo_pairwise _ _ _ _ _ (stepR_pos _ _ _) _, fun a ha b hb => ?_⟩
    unfold upTo at ha
    simp only [List.mem_flatMap, List.mem_range] at ha
    obtain ⟨i, hi, hm⟩ := ha
    obtain ⟨_, _, _, h2, _⟩ := mem_rowTo.1 hm
    obtain ⟨_, _, _, h3, _⟩ := mem_rowTo.1 hb
    left; omega

/-! ### the nearest one -/
def tx (w k : Nat) : Pt := ⟨(k % w : Nat), (k / w : Nat)⟩
/-- the k-th texel has a value and is near -/
def Val (w : Nat) (v : List Int) (x y pad : Int) (k : Nat) : Prop := 0 ≤ v.getD k (-1) ∧ farS ⟨x, y⟩ (tx w k) ≤ pad
theorem nearTo_inv (w : Nat) (v : List Int) (x y pad : Int) (hp : pad ≤ 8) (k : Nat) :
    (nearTo w v x y pad k = (⟨0, 0⟩, 1000) ∧ ∀ i, i < k → ¬ Val w v x y pad i) ∨
      ∃ j, j < k ∧ nearTo w v x y pad k = (tx w j, farS ⟨x, y⟩ (tx w j)) ∧ Val w v x y pad j ∧ (∀ i, i < k → Val w v x y pad i → farS ⟨x, y⟩ (tx w j) ≤ farS ⟨x, y⟩ (tx w i)) ∧
        (∀ i, i < j → Val w v x y pad i → farS ⟨x, y⟩ (tx w j) < farS ⟨x, y⟩ (tx w i)) := by
  induction k with
  | zero => exact .inl ⟨rfl, fun i hi => by omega⟩
  | succ k ih =>
    simp only [nearTo]
    rcases ih with ⟨h1, h2⟩ | ⟨j, hj, h1, h2, h3, h4⟩
    · rw [h1]
      by_cases hv : Val w v x y pad k
      · have hv' := hv
        obtain ⟨a, b⟩ := hv
        rw [if_pos ⟨a, b, by have : farS ⟨x, y⟩ (tx w k) ≤ pad := b; show farS ⟨x, y⟩ (tx w k) < 1000; omega⟩]
        refine .inr ⟨k, by omega, rfl, hv', fun i hi hvi => ?_, fun i hi hvi => absurd hvi (h2 i hi)⟩
        rcases Nat.lt_or_ge i k with h | h
        · exact absurd hvi (h2 i h)
        · rw [show i = k by omega]; omega
      · rw [if_neg (fun hh => hv ⟨hh.1, hh.2.1⟩)]
        refine .inl ⟨rfl, fun i hi => ?_⟩
        rcases Nat.lt_or_ge i k with h | h
        · exact h2 i h
        · rw [show i = k by omega]; exact hv
    · rw [h1]
      by_cases hv : Val w v x y pad k ∧ farS ⟨x, y⟩ (tx w k) < farS ⟨x, y⟩ (tx w j)
      · obtain ⟨hv, hlt⟩ := hv
        rw [if_pos ⟨hv.1, hv.2, hlt⟩]
        refine .inr ⟨k, by omega, rfl, hv, fun i hi hvi => ?_, fun i hi hvi => ?_⟩
        · rcases Nat.lt_or_ge i k with h | h
          · have := h3 i h hvi; omega
          · rw [show i = k by omega]; omega
        · have := h3 i hi hvi; omega
      · rw [if_neg (fun hh => hv ⟨⟨hh.1, hh.2.1⟩, hh.2.2⟩)]
        refine .inr ⟨j, by omega, rfl, h2, fun i hi hvi => ?_, h4⟩
        rcases Nat.lt_or_ge i k with h | h
        · exact h3 i h hvi
        · obtain rfl : i = k := by omega
          exact Int.not_lt.1 fun hh => hv ⟨hvi, hh⟩

/-- a picture's measures -/
structure Pict (w : Nat) (v : List Int) (h : Int) : Prop where
  w1 : 1 ≤ w
  w2 : w ≤ 256
  m : v.length % w = 0
  hh : h = ((v.length / w : Nat) : Int)
  h2 : h ≤ 256
  g : ∀ x ∈ v, grey x = true
def hasS (w : Nat) (v : List Int) (t : Pt) : Bool := decide (v.getD (t.y * w + t.x).toNat (-1) ≠ -1)
def keyS (w : Nat) (t : Pt) : Nat := (t.y * w + t.x).toNat

section
variable {w : Nat} {v : List Int} {h x y pad : Int}
theorem Pict.len (p : Pict w v h) : (v.length : Int) = h * w := by
  have h1 := Nat.div_add_mod v.length w
  rw [p.m, Nat.add_zero, Nat.mul_comm] at h1
  rw [p.hh, ← Int.natCast_mul, h1]
theorem Pict.key_lt (p : Pict w v h) {t : Pt} (h1 : 0 ≤ t.x) (h2 : t.x < w) (h3 : 0 ≤ t.y) (h4 : t.y < h) : keyS w t < v.length := by
  have hl := p.len
  have : t.y * w + w ≤ h * w := by
    have : (t.y + 1) * w ≤ h * w := Int.mul_le_mul_of_nonneg_right (by omega) (by omega)
    rw [Int.add_mul] at this; omega
  have h0 : 0 ≤ t.y * w := Int.mul_nonneg h3 (by omega)
  unfold keyS; omega
theorem Pict.tx_key (p : Pict w v h) {t : Pt} (h1 : 0 ≤ t.x) (h2 : t.x < w) (h3 : 0 ≤ t.y) : tx w (keyS w t) = t := by
  obtain ⟨a, b⟩ := t
  simp only at h1 h2 h3
  obtain ⟨a, rfl⟩ : ∃ n : Nat, a = n := ⟨a.toNat, by omega⟩
  obtain ⟨b, rfl⟩ : ∃ n : Nat, b = n := ⟨b.toNat, by omega⟩
  have e : keyS w ⟨a, b⟩ = b * w + a := by
    unfold keyS
    simp only
    rw [← Int.natCast_mul]; omega
  have ha : a < w := by omega
  unfold tx
  rw [e, Nat.mul_comm, Nat.mul_add_mod, Nat.mod_eq_of_lt ha, Nat.mul_add_div p.w1, Nat.div_eq_of_lt ha, Nat.add_zero]
theorem Pict.tx_range (p : Pict w v h) {k : Nat} (hk : k < v.length) : 0 ≤ (tx w k).x ∧ (tx w k).x < w ∧ 0 ≤ (tx w k).y ∧ (tx w k).y < h := by
  have h1 := Nat.mod_lt k p.w1
  have h2 : k / w < v.length / w := by
    have hl := Nat.div_add_mod v.length w
    rw [p.m, Nat.add_zero] at hl
    rw [Nat.div_lt_iff_lt_mul p.w1, Nat.mul_comm, hl]; exact hk
  rw [p.hh]
  unfold tx
  simp only
  exact ⟨Int.natCast_nonneg _, Int.ofNat_lt.2 h1, Int.natCast_nonneg _, Int.ofNat_lt.2 h2⟩
theorem Pict.key_tx (p : Pict w v h) (k : Nat) : keyS w (tx w k) = k := by
  unfold keyS tx
  simp only
  rw [← Int.natCast_mul]
  have := Nat.div_add_mod k w
  rw [Nat.mul_comm] at this
  omega
theorem Pict.has_val (p : Pict w v h) {k : Nat} : hasS w v (tx w k) = true ↔ 0 ≤ v.getD k (-1) := by
  unfold hasS
  rw [show ((tx w k).y * w + (tx w k).x).toNat = k from p.key_tx k]
  rw [decide_eq_true_eq]
  by_cases hk : k < v.length
  · have hg := p.g _ (List.getElem_mem hk)
    have e : v.getD k (-1) = v[k] := by simp [List.getD_eq_getElem?_getD, List.getElem?_eq_getElem hk]
    rw [e]
    have := grey_iff.1 hg
    omega
  · have e : v.getD k (-1) = -1 := by simp [List.getD_eq_getElem?_getD, List.getElem?_eq_none (Nat.not_lt.1 hk)]
    rw [e]; omega
/-- of a ring just so far -/
theorem ring_far {far : Int} (p : Pict w v h) (hf : 0 ≤ far) (hf8 : far ≤ 8) (hx : 0 ≤ x) (hx2 : x < w) (hy : 0 ≤ y) (hy2 : y < h) {t : Pt} (h1 : 0 ≤ t.x) (h2 : t.x < w) (h3 : 0 ≤ t.y) (h4 : t.y < h) :
    t ∈ ringL x y far w h ↔ farS ⟨x, y⟩ t = far := by
  rw [mem_ringL hf]
  have := p.w2
  have := p.h2
  unfold farS gapS
  simp only
  constructor
  · rintro ⟨_, _, _, _, a1, a2, a3, a4, a5⟩
    split <;> split <;> omega
  · intro e
    refine ⟨h1, h2, h3, h4, ?_⟩
    split at e <;> split at e <;> omega

theorem near_found {far : Int} (p : Pict w v h) (hp : pad ≤ 8) (hx : 0 ≤ x) (hx2 : x < w) (hy : 0 ≤ y) (hy2 : y < h) (hf : 0 ≤ far) (hfp : far ≤ pad)
    (hno : ∀ f : Int, 0 ≤ f → f < far → ∀ t ∈ ringL x y f w h, hasS w v t = false) {as bs : List Pt} {t : Pt} (hr : ringL x y far w h = as ++ t :: bs) (has : ∀ a ∈ as, hasS w v a = false) (ht : hasS w v t = true) :
    nearS w v x y pad = (t, true) := by
  have hm : t ∈ ringL x y far w h := by rw [hr]; simp
  obtain ⟨h1, h2, h3, h4, _⟩ := (mem_ringL hf).1 hm
  have hkey := p.key_lt h1 h2 h3 h4
  have htx := p.tx_key h1 h2 h3
  have hfar : farS ⟨x, y⟩ t = far := (ring_far p hf (by omega) hx hx2 hy hy2 h1 h2 h3 h4).1 hm
  have hval : Val w v x y pad (keyS w t) := ⟨p.has_val.1 (by rw [htx]; exact ht), by rw [htx, hfar]; exact hfp⟩
  have hin : ∀ i, i < v.length → Val w v x y pad i → tx w i ∈ ringL x y (farS ⟨x, y⟩ (tx w i)) w h ∧ hasS w v (tx w i) = true := fun i hi hvi => by
    obtain ⟨r1, r2, r3, r4⟩ := p.tx_range hi
    have hr0 := (farS_range ⟨x, y⟩ (tx w i)).1
    exact ⟨(ring_far p hr0 (by have := hvi.2; omega) hx hx2 hy hy2 r1 r2 r3 r4).2 rfl, p.has_val.2 hvi.1⟩
  have hmin : ∀ i, i < v.length → Val w v x y pad i → far ≤ farS ⟨x, y⟩ (tx w i) := fun i hi hvi => by
    obtain ⟨a, b⟩ := hin i hi hvi
    refine Int.not_lt.1 fun hlt => ?_
    have := hno _ (farS_range ⟨x, y⟩ (tx w i)).1 hlt _ a
    rw [b] at this; cases this
  have hfirst : ∀ i, i < keyS w t → Val w v x y pad i → far < farS ⟨x, y⟩ (tx w i) := fun i hi hvi => by
    obtain ⟨a, b⟩ := hin i (by omega) hvi
    have h5 := hmin i (by omega) hvi
    rcases Int.lt_or_le far (farS ⟨x, y⟩ (tx w i)) with h6 | h6
    · exact h6
    · rw [show farS ⟨x, y⟩ (tx w i) = far by omega, hr] at a
      have hpw := upTo_pairwise x y far w (cntV y far h)
      rw [show upTo x y far w (cntV y far h) = as ++ t :: bs from hr, List.pairwise_append] at hpw
      simp only [List.mem_append, List.mem_cons] at a
      rcases a with a | a | a
      · have := has _ a; rw [b] at this; cases this
      · have := p.key_tx i; rw [a] at this; omega
      · have h7 := (List.pairwise_cons.1 hpw.2.1).1 _ a
        have h8 := p.key_tx i
        obtain ⟨r1, r2, r3, r4⟩ := p.tx_range (show i < v.length by omega)
        exfalso
        have : keyS w t < keyS w (tx w i) := by
          unfold keyS
          rcases h7 with h7 | ⟨h7, h9⟩
          · have : (t.y + 1) * w ≤ (tx w i).y * w := Int.mul_le_mul_of_nonneg_right (by omega) (by omega)
            rw [Int.add_mul] at this
            have h0 : 0 ≤ t.y * w := Int.mul_nonneg h3 (by omega)
            omega
          · rw [h7]
            have h0 : 0 ≤ (tx w i).y * w := Int.mul_nonneg r3 (by omega)
            omega
        omega
  unfold nearS
  rcases nearTo_inv w v x y pad hp v.length with ⟨_, h6⟩ | ⟨j, hj, h6, h7, h8, h9⟩
  · exact absurd hval (h6 _ hkey)
  · have e : j = keyS w t := by
      have a1 := h8 _ hkey hval
      rw [htx, hfar] at a1
      have a2 := hmin j hj h7
      rcases Nat.lt_trichotomy j (keyS w t) with h | h | h
      · have := hfirst j h h7; omega
      · exact h
      · have := h9 _ h hval; rw [htx, hfar] at this; omega
    rw [h6, e, htx, hfar]
    simp only [Prod.mk.injEq, decide_eq_true_eq, true_and]
    omega
theorem near_none (p : Pict w v h) (hp : pad ≤ 8) (hx : 0 ≤ x) (hx2 : x < w) (hy : 0 ≤ y) (hy2 : y < h)
    (hno : ∀ f : Int, 0 ≤ f → f ≤ pad → ∀ t ∈ ringL x y f w h, hasS w v t = false) : nearS w v x y pad = (⟨0, 0⟩, false) := by
  unfold nearS
  rcases nearTo_inv w v x y pad hp v.length with ⟨h6, _⟩ | ⟨j, hj, h6, h7, h8, h9⟩
  · rw [h6]; simp
  · exfalso
    obtain ⟨r1, r2, r3, r4⟩ := p.tx_range hj
    have hr0 := (farS_range ⟨x, y⟩ (tx w j)).1
    have := hno _ hr0 h7.2 _ ((ring_far p hr0 (by have := h7.2; omega) hx hx2 hy hy2 r1 r2 r3 r4).2 rfl)
    rw [p.has_val.2 h7.1] at this; cases this
end

theorem cntR_iff {far s : Int} (x : Int) (hf : 0 ≤ far) (hs : s = 1 ∨ (s = 2 * far ∧ 0 < far)) (i : Nat) : i < cntR far s ↔ uAt x far s i ≤ x + far := by
  unfold uAt
  rcases hs with rfl | ⟨rfl, h0⟩
  · unfold cntR; rw [if_pos rfl]; omega
  · unfold cntR; rw [if_neg (by omega)]
    constructor
    · intro h
      rcases (show i = 0 ∨ i = 1 by omega) with rfl | rfl
      · simp; omega
      · simp; omega
    · intro h
      refine Nat.lt_of_not_ge fun hge => ?_
      have : (2 : Int) * (2 * far) ≤ (i : Int) * (2 * far) := Int.mul_le_mul_of_nonneg_right (by omega) (by omega)
      omega
theorem uAt_succ (x far s : Int) (i : Nat) : uAt x far s (i + 1) = uAt x far s i + s := by
  unfold uAt
  rw [Int.natCast_succ, Int.add_mul]; omega

theorem near_true {w : Nat} {v : List Int} {x y pad : Int} {t : Pt} (hp : pad ≤ 8) (h : nearS w v x y pad = (t, true)) : ∃ j, j < v.length ∧ t = tx w j := by
  unfold nearS at h
  rcases nearTo_inv w v x y pad hp v.length with ⟨h6, _⟩ | ⟨j, hj, h6, h7, h8, h9⟩
  · rw [h6] at h; simp at h
  · rw [h6] at h
    injection h with h1 h2
    exact ⟨j, hj, h1.symm⟩
theorem near_false {w : Nat} {v : List Int} {x y pad : Int} {t : Pt} (hp : pad ≤ 8) (h : nearS w v x y pad = (t, false)) : t = ⟨0, 0⟩ := by
  unfold nearS at h
  rcases nearTo_inv w v x y pad hp v.length with ⟨h6, _⟩ | ⟨j, hj, h6, h7, h8, h9⟩
  · rw [h6] at h; injection h with h1 h2; exact h1.symm
  · rw [h6] at h
    injection h with h1 h2
    have := (farS_range ⟨x, y⟩ (tx w j))
    have := h7.2
    simp at h2; omega
end Go.Proofs.Ytmkmmkpigpbkiaa
