/-
  A PICTURE's BYTES, in plain words: what is put is got, what is got is put. No program in sight.
-/
import Derived.Test.YtfkkppagbhllgaaTgaS
set_option linter.unusedVariables false
set_option linter.unusedSimpArgs false
namespace Go.Proofs.Ytfkkppagbhllgaa

/-- two bytes changed -/
def swapT (l : List UInt8) (i : Nat) : List UInt8 := (l.set i (l.getD (i + 2) 0)).set (i + 2) (l.getD i 0)
/-- red and blue changed in the first k colours -/
def turnK (z : Nat) (s : List UInt8) : Nat → List UInt8
  | 0 => s
  | k + 1 => swapT (turnK z s k) (k * z)
def turnedT (z : Nat) (s : List UInt8) : List UInt8 := turnK z s (s.length / z)
/-- where a byte comes from -/
def srcT (z j : Nat) : Nat := if j % z = 0 then j + 2 else if j % z = 2 then j - 2 else j

theorem swapT_len (l : List UInt8) (i : Nat) : (swapT l i).length = l.length := by simp [swapT]
theorem turnK_len (z : Nat) (s : List UInt8) : ∀ k, (turnK z s k).length = s.length
  | 0 => rfl
  | k + 1 => by rw [turnK, swapT_len, turnK_len z s k]
theorem turnedT_len (z : Nat) (s : List UInt8) : (turnedT z s).length = s.length := turnK_len z s _
theorem getD_get {l : List UInt8} {i : Nat} (h : i < l.length) : some (l.getD i 0) = l[i]? := by
  rw [List.getD_eq_getElem?_getD, List.getElem?_eq_getElem h]; rfl
theorem turnK_get {z : Nat} {s : List UInt8} (hz : z = 3 ∨ z = 4) : ∀ k, k * z ≤ s.length → ∀ j, (turnK z s k)[j]? = if j < k * z then s[srcT z j]? else s[j]?
  | 0, _, j => by simp [turnK]
  | k + 1, hk, j => by
    have hk' : k * z + z ≤ s.length := by rw [Nat.succ_mul] at hk; exact hk
    have ih := turnK_get (s := s) hz k (by omega)
    have hl := turnK_len z s k
    rw [turnK]
    unfold swapT
    have e0 : some ((turnK z s k).getD (k * z) 0) = s[k * z]? := by rw [getD_get (l := turnK z s k) (i := k * z) (by omega), ih, if_neg (by omega)]
    have e2 : some ((turnK z s k).getD (k * z + 2) 0) = s[k * z + 2]? := by rw [getD_get (l := turnK z s k) (i := k * z + 2) (by omega), ih, if_neg (by omega)]
    rw [List.getElem?_set, List.getElem?_set, List.length_set, hl]
    have em : (k + 1) * z = k * z + z := Nat.succ_mul _ _
    rw [em]
    by_cases h2 : k * z + 2 = j
    · subst h2
      have hs : srcT z (k * z + 2) = k * z := by
        unfold srcT
        rcases hz with rfl | rfl
        · rw [if_neg (by omega), if_pos (by omega)]; omega
        · rw [if_neg (by omega), if_pos (by omega)]; omega
      rw [if_pos rfl, if_pos (by omega), if_pos (by omega), hs, e0]
    · rw [if_neg h2]
      by_cases h0 : k * z = j
      · subst h0
        have hs : srcT z (k * z) = k * z + 2 := by
          unfold srcT
          rcases hz with rfl | rfl <;> rw [if_pos (by omega)]
        rw [if_pos rfl, if_pos (by omega), if_pos (by omega), hs, e2]
      · rw [if_neg h0, ih]
        by_cases hj : j < k * z
        · rw [if_pos hj, if_pos (by omega)]
        · rw [if_neg hj]
          by_cases hj2 : j < k * z + z
          · rw [if_pos hj2]
            have hs : srcT z j = j := by
              unfold srcT
              rcases hz with rfl | rfl <;> rw [if_neg (by omega), if_neg (by omega)]
            rw [hs]
          · rw [if_neg hj2]
theorem turnedT_get {z : Nat} {s : List UInt8} (hz : z = 3 ∨ z = 4) (hl : s.length = s.length / z * z) (j : Nat) (hj : j < s.length) : (turnedT z s)[j]? = s[srcT z j]? := by
  unfold turnedT
  rw [turnK_get hz _ (by omega), if_pos (by omega)]
/-- turned twice -/
theorem turned_twice {z : Nat} {s : List UInt8} (hz : z = 3 ∨ z = 4) (hl : s.length = s.length / z * z) : turnedT z (turnedT z s) = s := by
  refine List.ext_getElem? fun j => ?_
  have h1 := turnedT_len z s
  have hl' : (turnedT z s).length = (turnedT z s).length / z * z := by rw [h1]; exact hl
  by_cases hj : j < s.length
  · have hb : srcT z j < s.length ∧ srcT z (srcT z j) = j := by
      unfold srcT
      generalize s.length = n at *
      rcases hz with rfl | rfl
      · split
        · rw [if_neg (by omega), if_pos (by omega)]; omega
        · split
          · rw [if_pos (by omega)]; omega
          · exact ⟨hj, rfl⟩
      · split
        · rw [if_neg (by omega), if_pos (by omega)]; omega
        · split
          · rw [if_pos (by omega)]; omega
          · exact ⟨hj, rfl⟩
    rw [turnedT_get hz hl' j (by omega), turnedT_get hz hl _ hb.1, hb.2]
  · rw [List.getElem?_eq_none (by rw [turnedT_len, h1]; omega), List.getElem?_eq_none (by omega)]

def formT (w h bits : Int) : Bool := decide (1 ≤ w ∧ w ≤ 256 ∧ 1 ≤ h ∧ h ≤ 256 ∧ (bits = 24 ∨ bits = 32))
def isT (w h bits : Int) (n : Nat) : Bool := formT w h bits && decide ((n : Int) = w * h * (bits / 8))
def headT (w h z : Nat) (packed top : Bool) : List UInt8 :=
  [0, 0, if packed then 10 else 2, 0, 0, 0, 0, 0, 0, 0, 0, 0, UInt8.ofNat (w % 256), UInt8.ofNat (w / 256), UInt8.ofNat (h % 256), UInt8.ofNat (h / 256), UInt8.ofNat (8 * z), UInt8.ofNat ((if z = 4 then 8 else 0) + (if top then 32 else 0))]
def footT : List UInt8 := [0, 0, 0, 0, 0, 0, 0, 0, 84, 82, 85, 69, 86, 73, 83, 73, 79, 78, 45, 88, 70, 73, 76, 69, 46, 0]
def rowT (w z : Nat) (d : List UInt8) (y : Nat) : List UInt8 := (d.drop (w * z * y)).take (w * z)
def ordT (h : Nat) (top : Bool) (i : Nat) : Nat := if top then i else h - 1 - i
def putRow (packed : Bool) (z : Nat) (t : List UInt8) : List UInt8 := if packed then packT z t else t
def putT (w h z : Nat) (d : List UInt8) (packed top : Bool) : List UInt8 :=
  headT w h z packed top ++ ((List.range h).flatMap fun i => putRow packed z (turnedT z (rowT w z d (ordT h top i)))) ++ footT

def takeRow (packed : Bool) (z w : Nat) (s : List UInt8) : Option (List UInt8 × List UInt8) :=
  if packed then unpackT z w s else if s.length < z * w then none else some (s.take (z * w), s.drop (z * w))
def rowsT (packed : Bool) (z w : Nat) : Nat → List UInt8 → Option (List (List UInt8) × List UInt8)
  | 0, s => some ([], s)
  | n + 1, s => match takeRow packed z w s with
    | none => none
    | some o => (rowsT packed z w n o.2).map fun q => (o.1 :: q.1, q.2)
/-- rows as they stand in an image, from the upper one on -/
def dataT (z : Nat) (top : Bool) (rs : List (List UInt8)) : List UInt8 := ((if top then rs else rs.reverse).map (turnedT z)).flatten
structure Im where
  w : Nat
  h : Nat
  z : Nat
  d : List UInt8
def b2 (s : List UInt8) (i : Nat) : Nat := (s.getD i 0).toNat + 256 * (s.getD (i + 1) 0).toNat
def bits (s : List UInt8) : Nat := (s.getD 16 0).toNat
def isPacked (s : List UInt8) : Bool := s.getD 2 0 == 10
def isTop (s : List UInt8) : Bool := decide (32 ≤ (s.getD 17 0).toNat)
def headOk (s : List UInt8) : Bool := formT (b2 s 12) (b2 s 14) (bits s) && (s.take 18 == headT (b2 s 12) (b2 s 14) (bits s / 8) (isPacked s) (isTop s))
def getT (s : List UInt8) : Option Im :=
  if s.length < 18 then none
  else if headOk s then
    match rowsT (isPacked s) (bits s / 8) (b2 s 12) (b2 s 14) (s.drop 18) with
    | none => none
    | some o => if o.2 = footT then some ⟨b2 s 12, b2 s 14, bits s / 8, dataT (bits s / 8) (isTop s) o.1⟩ else none
  else none

structure Im.ok (m : Im) : Prop where
  w1 : 1 ≤ m.w
  w2 : m.w ≤ 256
  h1 : 1 ≤ m.h
  h2 : m.h ≤ 256
  z : m.z = 3 ∨ m.z = 4
  n : m.d.length = m.w * m.h * m.z

theorem headT_len (w h z : Nat) (p t : Bool) : (headT w h z p t).length = 18 := rfl
theorem head_packed (w h z : Nat) (p t : Bool) (r : List UInt8) : isPacked (headT w h z p t ++ r) = p := by
  unfold isPacked headT; cases p <;> rfl
theorem head_top {w h z : Nat} (hz : z = 3 ∨ z = 4) (p t : Bool) (r : List UInt8) : isTop (headT w h z p t ++ r) = t := by
  unfold isTop headT; rcases hz with rfl | rfl <;> cases t <;> rfl
theorem head_bits {w h z : Nat} (hz : z = 3 ∨ z = 4) (p t : Bool) (r : List UInt8) : bits (headT w h z p t ++ r) = 8 * z := by
  unfold bits headT; rcases hz with rfl | rfl <;> rfl
theorem head_w {w h z : Nat} (hw : w ≤ 256) (p t : Bool) (r : List UInt8) : b2 (headT w h z p t ++ r) 12 = w := by
  unfold b2 headT
  show (UInt8.ofNat (w % 256)).toNat + 256 * (UInt8.ofNat (w / 256)).toNat = w
  rw [u8_of _ (by omega), u8_of _ (by omega)]; omega
theorem head_h {w h z : Nat} (hh : h ≤ 256) (p t : Bool) (r : List UInt8) : b2 (headT w h z p t ++ r) 14 = h := by
  unfold b2 headT
  show (UInt8.ofNat (h % 256)).toNat + 256 * (UInt8.ofNat (h / 256)).toNat = h
  rw [u8_of _ (by omega), u8_of _ (by omega)]; omega

theorem take_put {z w : Nat} {t : List UInt8} (packed : Bool) (hz : 0 < z) (hl : t.length = w * z) (r : List UInt8) : takeRow packed z w (putRow packed z t ++ r) = some (t, r) := by
  unfold takeRow putRow
  cases packed with
  | false =>
    simp only [Bool.false_eq_true, if_false]
    rw [Nat.mul_comm z w, if_neg (by rw [List.length_append]; omega), List.take_append_of_le_length (by omega), List.take_of_length_le (by omega), List.drop_append_of_le_length (by omega), List.drop_of_length_le (by omega), List.nil_append]
  | true =>
    rw [if_pos rfl, if_pos rfl]
    have hm : manyT z t = w := by unfold manyT; rw [hl]; exact Nat.mul_div_cancel _ hz
    have := unpack_pack (z := z) (s := t) hz (by rw [hm]; exact hl) 0 r
    rw [hm, Nat.add_zero] at this
    rw [this, unpackT_zero]
    simp
theorem rows_put {z w : Nat} (packed : Bool) (hz : 0 < z) (f : Nat → List UInt8) (hl : ∀ i, (f i).length = w * z) : ∀ (n k : Nat) (r : List UInt8),
    rowsT packed z w n (((List.range' k n).flatMap fun i => putRow packed z (f i)) ++ r) = some ((List.range' k n).map f, r)
  | 0, k, r => by simp [rowsT]
  | n + 1, k, r => by
    rw [List.range'_succ, List.flatMap_cons, List.append_assoc, rowsT, take_put packed hz (hl k)]
    dsimp only
    rw [rows_put packed hz f hl n (k + 1) r]
    simp
theorem rows_put_z {z w : Nat} (packed : Bool) (hz : 0 < z) (f : Nat → List UInt8) (n : Nat) (hl : ∀ i, i < n → (f i).length = w * z) (r : List UInt8) :
    rowsT packed z w n (((List.range n).flatMap fun i => putRow packed z (f i)) ++ r) = some ((List.range n).map f, r) := by
  have h := rows_put packed hz (fun i => if i < n then f i else List.replicate (w * z) 0) (fun i => by
    by_cases h9 : i < n
    · simp only [if_pos h9]; exact hl i h9
    · simp only [if_neg h9]; simp) n 0 r
  rw [← List.range_eq_range'] at h
  rw [show ((List.range n).flatMap fun i => putRow packed z (f i)) = ((List.range n).flatMap fun i => putRow packed z ((fun i => if i < n then f i else List.replicate (w * z) 0) i)) from ?_, h]
  · congr 2
    refine List.map_congr_left fun i hi => ?_
    rw [if_pos (List.mem_range.1 hi)]
  · rw [List.flatMap_def, List.flatMap_def]
    congr 1
    refine List.map_congr_left fun i hi => ?_
    dsimp only
    rw [if_pos (List.mem_range.1 hi)]

theorem ord_list (h : Nat) (top : Bool) : (if top then (List.range h).map (ordT h top) else ((List.range h).map (ordT h top)).reverse) = List.range h := by
  cases top with
  | true =>
    rw [if_pos rfl]
    have : (List.range h).map (ordT h true) = (List.range h).map id := List.map_congr_left fun i _ => rfl
    rw [this, List.map_id]
  | false =>
    rw [if_neg (by simp)]
    refine List.ext_getElem? fun j => ?_
    by_cases hj : j < h
    · rw [List.getElem?_reverse (by simpa using hj)]
      simp only [List.length_map, List.length_range, List.getElem?_map]
      rw [List.getElem?_range (by omega), List.getElem?_range hj]
      simp only [Option.map_some, ordT]
      congr 1
      simp
      omega
    · rw [List.getElem?_eq_none (by simp; omega), List.getElem?_eq_none (by simp; omega)]
theorem ord_map (h : Nat) (top : Bool) (G : Nat → List UInt8) : (if top then (List.range h).map (fun i => G (ordT h top i)) else ((List.range h).map fun i => G (ordT h top i)).reverse) = (List.range h).map G := by
  have := congrArg (List.map G) (ord_list h top)
  rw [← this]
  cases top with
  | true => rw [if_pos rfl, if_pos rfl, List.map_map]; rfl
  | false => rw [if_neg (by simp), if_neg (by simp), List.map_reverse, List.map_map]; rfl
theorem rows_all {n : Nat} : ∀ (h : Nat) (d : List UInt8), d.length = h * n → ((List.range h).map fun y => (d.drop (n * y)).take n).flatten = d
  | 0, d, hd => by
    have : d = [] := List.eq_nil_of_length_eq_zero (by omega)
    subst this; rfl
  | h + 1, d, hd => by
    rw [List.range_succ_eq_map, List.map_cons, List.flatten_cons, List.map_map]
    have hd' : d.length = h * n + n := by rw [hd, Nat.succ_mul]
    have ih := rows_all (n := n) h (d.drop n) (by rw [List.length_drop, hd']; omega)
    have e : ((fun y => (d.drop (n * y)).take n) ∘ Nat.succ) = fun y => ((d.drop n).drop (n * y)).take n := by
      funext y
      simp only [Function.comp]
      rw [List.drop_drop]
      congr 2
      rw [Nat.mul_succ]; omega
    rw [e, ih, Nat.mul_zero, List.drop_zero, List.take_append_drop]
theorem row_len {m : Im} (h : m.ok) {y : Nat} (hy : y < m.h) : (rowT m.w m.z m.d y).length = m.w * m.z := by
  unfold rowT
  rw [List.length_take, List.length_drop, h.n]
  have : m.w * m.z * y + m.w * m.z ≤ m.w * m.h * m.z := by
    rw [← Nat.mul_succ, Nat.mul_assoc m.w m.h, Nat.mul_comm m.h, ← Nat.mul_assoc]
    exact Nat.mul_le_mul_left _ hy
  omega
theorem mul_mod_ok {n z : Nat} (hz : 0 < z) : (n * z) = (n * z) / z * z := by rw [Nat.mul_div_cancel _ hz]
theorem ordT_lt {h i : Nat} (top : Bool) (hi : i < h) : ordT h top i < h := by unfold ordT; split <;> omega
theorem form_of {m : Im} (h : m.ok) : formT m.w m.h ((8 * m.z : Nat) : Int) = true := by
  have := h.w1; have := h.w2; have := h.h1; have := h.h2; have := h.z
  unfold formT
  rw [decide_eq_true_iff]
  omega
/-- what is put is got -/
theorem get_put {m : Im} (h : m.ok) (packed top : Bool) : getT (putT m.w m.h m.z m.d packed top) = some m := by
  have hz : 0 < m.z := by have := h.z; omega
  unfold getT putT
  rw [List.append_assoc]
  have hf := form_of h
  rw [if_neg (by rw [List.length_append, headT_len]; omega)]
  have hd : ∀ r, (headT m.w m.h m.z packed top ++ r).drop 18 = r := fun r => by
    rw [List.drop_append_of_le_length (by rw [headT_len]; omega), List.drop_of_length_le (by rw [headT_len]; omega), List.nil_append]
  have ht : ∀ r, (headT m.w m.h m.z packed top ++ r).take 18 = headT m.w m.h m.z packed top := fun r => by
    rw [List.take_append_of_le_length (by rw [headT_len]; omega), List.take_of_length_le (by rw [headT_len]; omega)]
  unfold headOk
  rw [head_w h.w2, head_h h.h2, head_bits h.z, head_packed, head_top h.z, hd, ht, Nat.mul_div_cancel_left _ (by omega : 0 < 8), hf]
  simp only [BEq.rfl, Bool.and_self, if_true]
  rw [rows_put_z packed hz (fun i => turnedT m.z (rowT m.w m.z m.d (ordT m.h top i))) m.h (fun i hi => by rw [turnedT_len, row_len h (ordT_lt top hi)])]
  dsimp only
  rw [if_pos rfl]
  have e : dataT m.z top ((List.range m.h).map fun i => turnedT m.z (rowT m.w m.z m.d (ordT m.h top i))) = m.d := by
    have e2 : (if top then ((List.range m.h).map fun i => turnedT m.z (rowT m.w m.z m.d (ordT m.h top i))) else ((List.range m.h).map fun i => turnedT m.z (rowT m.w m.z m.d (ordT m.h top i))).reverse) = (List.range m.h).map fun y => turnedT m.z (rowT m.w m.z m.d y) := by
      exact ord_map m.h top fun y => turnedT m.z (rowT m.w m.z m.d y)
    unfold dataT
    rw [e2, List.map_map]
    have e3 : ((List.range m.h).map (turnedT m.z ∘ fun y => turnedT m.z (rowT m.w m.z m.d y))) = (List.range m.h).map fun y => (m.d.drop (m.w * m.z * y)).take (m.w * m.z) := by
      refine List.map_congr_left fun y hy => ?_
      have hr := row_len h (List.mem_range.1 hy)
      simp only [Function.comp]
      rw [turned_twice h.z (by rw [hr]; exact mul_mod_ok hz)]
      rfl
    rw [e3]
    refine rows_all m.h m.d ?_
    rw [h.n, Nat.mul_comm m.w m.h, Nat.mul_assoc]
  rw [e]
theorem put_len {m : Im} (h : m.ok) (top : Bool) : (putT m.w m.h m.z m.d false top).length = 44 + m.d.length := by
  unfold putT
  rw [List.length_append, List.length_append, headT_len]
  have : ∀ n, n ≤ m.h → ((List.range n).flatMap fun i => putRow false m.z (turnedT m.z (rowT m.w m.z m.d (ordT m.h top i)))).length = n * (m.w * m.z) := by
    intro n
    induction n with
    | zero => intro _; simp
    | succ n ih =>
      intro hn
      rw [List.range_succ, List.flatMap_append, List.length_append, ih (by omega), Nat.succ_mul]
      simp only [List.flatMap_cons, List.flatMap_nil, List.append_nil]
      rw [show putRow false m.z (turnedT m.z (rowT m.w m.z m.d (ordT m.h top n))) = turnedT m.z (rowT m.w m.z m.d (ordT m.h top n)) from rfl, turnedT_len, row_len h (ordT_lt top (by omega))]
  rw [this m.h (Nat.le_refl _), h.n, show footT.length = 26 from rfl, Nat.mul_assoc m.w m.h, Nat.mul_comm m.h m.z, ← Nat.mul_assoc m.w m.z, Nat.mul_comm (m.w * m.z)]
  omega

theorem unpack_out {z : Nat} (hz : 0 < z) : ∀ (need : Nat) (s : List UInt8) (o : List UInt8 × List UInt8), unpackT z need s = some o → o.1.length = need * z
  | need, s, o, h => by
    by_cases h0 : need = 0
    · subst h0
      rw [unpackT_zero] at h
      cases h; simp
    · cases s with
      | nil => rw [unpackT_nil h0] at h; cases h
      | cons c t =>
        rw [unpackT_cons _ _ _ _ h0] at h
        split at h
        · cases h
        · rename_i h1
          have em : need * z = (c.toNat % 128 + 1) * z + (need - (c.toNat % 128 + 1)) * z := by rw [← Nat.add_mul]; congr 1; omega
          split at h
          · split at h
            · cases h
            · rename_i h2 h3
              cases hu : unpackT z (need - (c.toNat % 128 + 1)) (t.drop z) with
              | none => rw [hu] at h; cases h
              | some q =>
                rw [hu] at h
                simp only [Option.map_some, Option.some.injEq] at h
                subst h
                have ih := unpack_out hz _ _ _ hu
                simp only [List.length_append, List.length_flatten, List.map_replicate, List.sum_replicate_nat, List.length_take, ih]
                rw [em, Nat.min_eq_left (by omega)]
          · split at h
            · cases h
            · rename_i h2 h3
              cases hu : unpackT z (need - (c.toNat % 128 + 1)) (t.drop ((c.toNat % 128 + 1) * z)) with
              | none => rw [hu] at h; cases h
              | some q =>
                rw [hu] at h
                simp only [Option.map_some, Option.some.injEq] at h
                subst h
                have ih := unpack_out hz _ _ _ hu
                simp only [List.length_append, List.length_take, ih]
                rw [em, Nat.min_eq_left (by omega)]
termination_by need => need
theorem takeRow_out {packed : Bool} {z w : Nat} (hz : 0 < z) {s : List UInt8} {o : List UInt8 × List UInt8} (h : takeRow packed z w s = some o) : o.1.length = w * z := by
  unfold takeRow at h
  split at h
  · exact unpack_out hz _ _ _ h
  · split at h
    · cases h
    · cases h
      simp only [List.length_take]
      rw [Nat.mul_comm w z]; omega
theorem rows_out {packed : Bool} {z w : Nat} (hz : 0 < z) : ∀ (n : Nat) (s : List UInt8) (o : List (List UInt8) × List UInt8), rowsT packed z w n s = some o → o.1.length = n ∧ ∀ r ∈ o.1, r.length = w * z
  | 0, s, o, h => by simp [rowsT] at h; subst h; simp
  | n + 1, s, o, h => by
    rw [rowsT] at h
    cases ht : takeRow packed z w s with
    | none => rw [ht] at h; cases h
    | some q =>
      rw [ht] at h
      dsimp only at h
      cases hr : rowsT packed z w n q.2 with
      | none => rw [hr] at h; cases h
      | some p =>
        rw [hr] at h
        simp only [Option.map_some, Option.some.injEq] at h
        subst h
        obtain ⟨h1, h2⟩ := rows_out hz n _ _ hr
        have h3 := takeRow_out hz ht
        refine ⟨by simp [h1], fun r hm => ?_⟩
        rcases List.mem_cons.1 hm with rfl | hm
        · exact h3
        · exact h2 r hm
theorem flat_len {n : Nat} : ∀ (rs : List (List UInt8)), (∀ r ∈ rs, r.length = n) → rs.flatten.length = rs.length * n
  | [], _ => by simp
  | r :: rs, h => by
    rw [List.flatten_cons, List.length_append, h r List.mem_cons_self, flat_len rs (fun x hx => h x (List.mem_cons_of_mem _ hx)), List.length_cons, Nat.succ_mul]; omega
theorem data_len {z n : Nat} (top : Bool) (rs : List (List UInt8)) (h : ∀ r ∈ rs, r.length = n) : (dataT z top rs).length = rs.length * n := by
  unfold dataT
  have h2 : ∀ r ∈ (if top then rs else rs.reverse).map (turnedT z), r.length = n := by
    intro r hr
    obtain ⟨x, hx, rfl⟩ := List.mem_map.1 hr
    rw [turnedT_len]
    refine h x ?_
    cases top
    · simpa using hx
    · simpa using hx
  rw [flat_len _ h2]
  cases top <;> simp
/-- what is got is right -/
theorem get_ok {s : List UInt8} {m : Im} (h : getT s = some m) : m.ok ∧ 18 ≤ s.length := by
  unfold getT at h
  split at h
  · cases h
  · rename_i hl
    split at h
    · rename_i hh
      unfold headOk at hh
      simp only [Bool.and_eq_true] at hh
      obtain ⟨h1, h2⟩ := hh
      unfold formT at h1
      rw [decide_eq_true_iff] at h1
      have hz : bits s / 8 = 3 ∨ bits s / 8 = 4 := by omega
      cases hr : rowsT (isPacked s) (bits s / 8) (b2 s 12) (b2 s 14) (s.drop 18) with
      | none => rw [hr] at h; cases h
      | some o =>
        rw [hr] at h
        dsimp only at h
        split at h
        · cases h
          obtain ⟨g1, g2⟩ := rows_out (by omega) _ _ _ hr
          refine ⟨⟨by show 1 ≤ b2 s 12; omega, by show b2 s 12 ≤ 256; omega, by show 1 ≤ b2 s 14; omega, by show b2 s 14 ≤ 256; omega, hz, ?_⟩, by omega⟩
          show (dataT _ _ _).length = _
          rw [data_len _ _ g2, g1, Nat.mul_comm (b2 s 12) (b2 s 14), Nat.mul_assoc]
        · cases h
    · cases h
theorem rows_plain {z w : Nat} : ∀ (n : Nat) (s : List UInt8) (o : List (List UInt8) × List UInt8), rowsT false z w n s = some o → s = o.1.flatten ++ o.2
  | 0, s, o, h => by simp [rowsT] at h; subst h; rfl
  | n + 1, s, o, h => by
    rw [rowsT] at h
    cases ht : takeRow false z w s with
    | none => rw [ht] at h; cases h
    | some q =>
      rw [ht] at h
      dsimp only at h
      cases hr : rowsT false z w n q.2 with
      | none => rw [hr] at h; cases h
      | some p =>
        rw [hr] at h
        simp only [Option.map_some, Option.some.injEq] at h
        subst h
        have ih := rows_plain n _ _ hr
        unfold takeRow at ht
        simp only [Bool.false_eq_true, if_false] at ht
        split at ht
        · cases ht
        · cases ht
          simp only [List.flatten_cons, List.append_assoc]
          rw [← ih, List.take_append_drop]
theorem flat_cut {n : Nat} : ∀ (rs : List (List UInt8)) (y : Nat), (∀ r ∈ rs, r.length = n) → (rs.flatten.drop (n * y)).take n = rs.getD y []
  | [], y, _ => by simp
  | r :: rs, 0, h => by
    have := h r List.mem_cons_self
    simp only [Nat.mul_zero, List.drop_zero, List.flatten_cons, List.getD_cons_zero]
    rw [List.take_append_of_le_length (by omega), List.take_of_length_le (by omega)]
  | r :: rs, y + 1, h => by
    have h1 := h r List.mem_cons_self
    simp only [List.flatten_cons, List.getD_cons_succ]
    rw [List.drop_append, List.drop_of_length_le (by rw [Nat.mul_succ]; omega), List.nil_append, h1, show n * (y + 1) - n = n * y by rw [Nat.mul_succ]; omega]
    exact flat_cut rs y fun x hx => h x (List.mem_cons_of_mem _ hx)
/-- what is got plain is put as it was -/
theorem put_get {s : List UInt8} {m : Im} (h : getT s = some m) (hp : isPacked s = false) : putT m.w m.h m.z m.d false (isTop s) = s := by
  unfold getT at h
  split at h
  · cases h
  · rename_i hl
    split at h
    · rename_i hh
      unfold headOk at hh
      simp only [Bool.and_eq_true, beq_iff_eq] at hh
      obtain ⟨h1, h2⟩ := hh
      unfold formT at h1
      rw [decide_eq_true_iff] at h1
      have hz : bits s / 8 = 3 ∨ bits s / 8 = 4 := by omega
      rw [hp] at h h2
      cases hr : rowsT false (bits s / 8) (b2 s 12) (b2 s 14) (s.drop 18) with
      | none => rw [hr] at h; cases h
      | some o =>
        rw [hr] at h
        dsimp only at h
        split at h
        · rename_i hft
          cases h
          dsimp only
          obtain ⟨g1, g2⟩ := rows_out (by omega) _ _ _ hr
          have g3 := rows_plain _ _ _ hr
          unfold putT
          rw [← h2]
          have e : ((List.range (b2 s 14)).flatMap fun i => putRow false (bits s / 8) (turnedT (bits s / 8) (rowT (b2 s 12) (bits s / 8) (dataT (bits s / 8) (isTop s) o.1) (ordT (b2 s 14) (isTop s) i)))) = o.1.flatten := by
            rw [List.flatMap_def]
            congr 1
            refine List.ext_getElem? fun i => ?_
            by_cases hi : i < b2 s 14
            · rw [List.getElem?_map, List.getElem?_range hi, Option.map_some]
              show some (turnedT _ _) = _
              unfold rowT dataT
              rw [flat_cut]
              · have hi2 : i < o.1.length := by omega
                have e5 : ((if isTop s = true then o.1 else o.1.reverse).map (turnedT (bits s / 8))).getD (ordT (b2 s 14) (isTop s) i) [] = turnedT (bits s / 8) o.1[i] := by
                  rw [List.getD_eq_getElem?_getD, List.getElem?_map]
                  unfold ordT
                  cases isTop s with
                  | true => simp [List.getElem?_eq_getElem hi2]
                  | false =>
                    simp only [Bool.false_eq_true, if_false]
                    rw [List.getElem?_reverse (by omega), show o.1.length - 1 - (b2 s 14 - 1 - i) = i by omega, List.getElem?_eq_getElem hi2]
                    rfl
                rw [e5, turned_twice hz (by rw [g2 _ (List.getElem_mem hi2)]; exact mul_mod_ok (by omega)), List.getElem?_eq_getElem hi2]
              · intro r hr'
                obtain ⟨x, hx, rfl⟩ := List.mem_map.1 hr'
                rw [turnedT_len]
                refine g2 x ?_
                cases h9 : isTop s <;> simpa [h9] using hx
            · rw [List.getElem?_eq_none (by simp; omega), List.getElem?_eq_none (by omega)]
          rw [e, List.append_assoc, ← hft, ← g3, List.take_append_drop]
        · cases h
    · cases h
end Go.Proofs.Ytfkkppagbhllgaa
