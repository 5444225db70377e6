/-
  ROWS OF COLOURS, PACKED AND UNPACKED, in plain words. No program in sight.
-/

set_option linter.unusedVariables false
set_option linter.unusedSimpArgs false
namespace Go.Proofs.Ytfkkppagbhllgaa

/-- the colour at a place -/
def colT (z : Nat) (s : List UInt8) (i : Nat) : List UInt8 := (s.drop (i * z)).take z
def manyT (z : Nat) (s : List UInt8) : Nat := s.length / z
/-- two that stand behind one another are the same -/
def sameT (z : Nat) (s : List UInt8) (i : Nat) : Bool := decide (i + 1 < manyT z s) && (colT z s i == colT z s (i + 1))
/-- as far as something is so -/
def endT (ok : Nat → Bool) : Nat → Nat → Nat
  | 0, to => to
  | n + 1, to => if ok to then endT ok n (to + 1) else to
def okT (z : Nat) (s : List UInt8) (run : Bool) (to : Nat) : Bool := if run then sameT z s (to - 1) else !sameT z s to
def limT (z : Nat) (s : List UInt8) (f : Nat) : Nat := min (manyT z s) (f + 128)
/-- where the piece that begins at f ends -/
def pendT (z : Nat) (s : List UInt8) (f : Nat) : Nat := endT (okT z s (sameT z s f)) (limT z s f - (f + 1)) (f + 1)
def piecesT (z : Nat) (s : List UInt8) : Nat → Nat → List (Nat × Nat × Bool)
  | 0, _ => []
  | n + 1, f => if f < manyT z s then (f, pendT z s f, sameT z s f) :: piecesT z s n (pendT z s f) else []
/-- a stretch of colours -/
def spanT (z : Nat) (s : List UInt8) (f n : Nat) : List UInt8 := (s.drop (f * z)).take (n * z)
/-- a piece's bytes -/
def pieceB (z : Nat) (s : List UInt8) (p : Nat × Nat × Bool) : List UInt8 :=
  if p.2.2 then UInt8.ofNat (128 + (p.2.1 - p.1 - 1)) :: colT z s p.1 else UInt8.ofNat (p.2.1 - p.1 - 1) :: spanT z s p.1 (p.2.1 - p.1)
def packFrom (z : Nat) (s : List UInt8) (n f : Nat) : List UInt8 := (piecesT z s n f).flatMap (pieceB z s)
def packT (z : Nat) (s : List UInt8) : List UInt8 := packFrom z s (manyT z s) 0

/-- colours unpacked: these, and what is left -/
def unpackT (z need : Nat) (s : List UInt8) : Option (List UInt8 × List UInt8) :=
  if _h : need = 0 then some ([], s) else
  match s with
  | [] => none
  | c :: t =>
    if _h2 : need < c.toNat % 128 + 1 then none
    else if 128 ≤ c.toNat then
      if t.length < z then none
      else (unpackT z (need - (c.toNat % 128 + 1)) (t.drop z)).map fun o => ((List.replicate (c.toNat % 128 + 1) (t.take z)).flatten ++ o.1, o.2)
    else if t.length < (c.toNat % 128 + 1) * z then none
    else (unpackT z (need - (c.toNat % 128 + 1)) (t.drop ((c.toNat % 128 + 1) * z))).map fun o => (t.take ((c.toNat % 128 + 1) * z) ++ o.1, o.2)
termination_by need
decreasing_by all_goals omega

theorem unpackT_zero (z : Nat) (s : List UInt8) : unpackT z 0 s = some ([], s) := by rw [unpackT.eq_def]; simp
theorem unpackT_nil {z need : Nat} (h : need ≠ 0) : unpackT z need [] = none := by rw [unpackT.eq_def]; simp [h]
theorem unpackT_cons (z need : Nat) (c : UInt8) (t : List UInt8) (h : need ≠ 0) : unpackT z need (c :: t) =
    if need < c.toNat % 128 + 1 then none
    else if 128 ≤ c.toNat then
      if t.length < z then none
      else (unpackT z (need - (c.toNat % 128 + 1)) (t.drop z)).map fun o => ((List.replicate (c.toNat % 128 + 1) (t.take z)).flatten ++ o.1, o.2)
    else if t.length < (c.toNat % 128 + 1) * z then none
    else (unpackT z (need - (c.toNat % 128 + 1)) (t.drop ((c.toNat % 128 + 1) * z))).map fun o => (t.take ((c.toNat % 128 + 1) * z) ++ o.1, o.2) := by
  rw [unpackT.eq_def]; simp [h]

theorem endT_le (ok : Nat → Bool) : ∀ n to, to ≤ endT ok n to ∧ endT ok n to ≤ to + n
  | 0, to => by simp [endT]
  | n + 1, to => by
    have := endT_le ok n (to + 1)
    unfold endT; split <;> omega
theorem endT_all (ok : Nat → Bool) : ∀ n to j, to ≤ j → j < endT ok n to → ok j = true
  | 0, to, j, h1, h2 => by simp [endT] at h2; omega
  | n + 1, to, j, h1, h2 => by
    unfold endT at h2
    split at h2
    · rename_i h
      rcases Nat.lt_or_ge to j with h3 | h3
      · exact endT_all ok n (to + 1) j h3 h2
      · have : j = to := by omega
        rw [this]; exact h
    · omega
theorem endT_stop (ok : Nat → Bool) : ∀ n to, endT ok n to < to + n → ok (endT ok n to) = false
  | 0, to, h => by simp [endT] at h
  | n + 1, to, h => by
    unfold endT at h ⊢
    split at h
    · rename_i h1
      rw [if_pos h1]
      exact endT_stop ok n (to + 1) (by omega)
    · rename_i h1
      rw [if_neg h1]; simpa using h1
theorem endT_step {ok : Nat → Bool} {lim to : Nat} (h : to < lim) (hok : ok to = true) : endT ok (lim - to) to = endT ok (lim - (to + 1)) (to + 1) := by
  have : lim - to = (lim - (to + 1)) + 1 := by omega
  rw [this, endT, if_pos hok]
theorem endT_off {ok : Nat → Bool} {lim to : Nat} (h : to < lim → ok to = false) : endT ok (lim - to) to = to := by
  rcases Nat.lt_or_ge to lim with h1 | h1
  · have : lim - to = (lim - (to + 1)) + 1 := by omega
    rw [this, endT, if_neg (by rw [h h1]; simp)]
  · have : lim - to = 0 := by omega
    rw [this, endT]

theorem sameT_lt {z : Nat} {s : List UInt8} {i : Nat} (h : sameT z s i = true) : i + 1 < manyT z s := by unfold sameT at h; simp at h; exact h.1
theorem sameT_eq {z : Nat} {s : List UInt8} {i : Nat} (h : sameT z s i = true) : colT z s i = colT z s (i + 1) := by unfold sameT at h; simp at h; exact h.2
theorem pendT_b {z : Nat} {s : List UInt8} {f : Nat} (h : f < manyT z s) : f + 1 ≤ pendT z s f ∧ pendT z s f ≤ manyT z s ∧ pendT z s f ≤ f + 128 := by
  have := endT_le (okT z s (sameT z s f)) (limT z s f - (f + 1)) (f + 1)
  unfold pendT
  have hl : limT z s f ≤ manyT z s ∧ limT z s f ≤ f + 128 ∧ f + 1 ≤ limT z s f := by unfold limT; omega
  omega
theorem pendT_run {z : Nat} {s : List UInt8} {f : Nat} (h : sameT z s f = true) : f + 2 ≤ pendT z s f := by
  have h1 := sameT_lt h
  have h2 : f + 1 < limT z s f := by unfold limT; omega
  unfold pendT
  rw [endT_step h2 (by unfold okT; rw [h]; simpa using h)]
  exact (endT_le _ _ _).1
theorem run_same {z : Nat} {s : List UInt8} {f : Nat} (h : sameT z s f = true) : ∀ j, f + j < pendT z s f → colT z s (f + j) = colT z s f
  | 0, _ => rfl
  | j + 1, hj => by
    have ih := run_same h j (by omega)
    have h2 := endT_all (okT z s (sameT z s f)) (limT z s f - (f + 1)) (f + 1) (f + (j + 1)) (by omega) hj
    unfold okT at h2
    rw [h] at h2
    simp only [if_true, Nat.add_succ_sub_one] at h2
    have h3 := sameT_eq h2
    rw [← ih, h3]; rfl
theorem lit_stop {z : Nat} {s : List UInt8} {f : Nat} (hf : f < manyT z s) (h : sameT z s f = false) (h1 : pendT z s f < manyT z s) (h2 : pendT z s f < f + 128) : sameT z s (pendT z s f) = true := by
  have h3 := endT_stop (okT z s (sameT z s f)) (limT z s f - (f + 1)) (f + 1) (by
    have : f + 1 ≤ limT z s f := by unfold limT; omega
    have h4 : pendT z s f < limT z s f := by unfold limT; omega
    unfold pendT at h4; omega)
  change okT z s (sameT z s f) (pendT z s f) = false at h3
  unfold okT at h3
  rw [h] at h3
  simpa using h3

theorem spanT_add (z : Nat) (s : List UInt8) (f m n : Nat) : spanT z s f (m + n) = spanT z s f m ++ spanT z s (f + m) n := by
  unfold spanT
  rw [show (m + n) * z = m * z + n * z from Nat.add_mul _ _ _, List.take_add, List.drop_drop, show f * z + m * z = (f + m) * z from (Nat.add_mul _ _ _).symm]
theorem spanT_one (z : Nat) (s : List UInt8) (f : Nat) : spanT z s f 1 = colT z s f := by unfold spanT colT; rw [Nat.one_mul]
theorem spanT_same {z : Nat} {s c : List UInt8} {f : Nat} : ∀ n, (∀ j, j < n → colT z s (f + j) = c) → spanT z s f n = (List.replicate n c).flatten
  | 0, _ => by simp [spanT]
  | n + 1, h => by
    rw [spanT_add, spanT_same n (fun j hj => h j (by omega)), spanT_one, h n (by omega), List.replicate_succ']
    simp
theorem spanT_len {z : Nat} {s : List UInt8} {f n : Nat} (hl : s.length = manyT z s * z) (h : f + n ≤ manyT z s) : (spanT z s f n).length = n * z := by
  unfold spanT
  have : f * z + n * z ≤ manyT z s * z := by rw [← Nat.add_mul]; exact Nat.mul_le_mul_right _ h
  rw [List.length_take, List.length_drop, hl]; omega
theorem u8_of (n : Nat) (h : n < 256) : (UInt8.ofNat n).toNat = n := by
  rw [UInt8.toNat_ofNat']; exact Nat.mod_eq_of_lt h

/-- one piece unpacked -/
theorem unpack_piece {z : Nat} {s : List UInt8} {f b : Nat} (hz : 0 < z) (hl : s.length = manyT z s * z) (hf : f < manyT z s) (r : List UInt8) (hb : pendT z s f - f ≤ b) :
    unpackT z b (pieceB z s (f, pendT z s f, sameT z s f) ++ r) = (unpackT z (b - (pendT z s f - f)) r).map fun o => (spanT z s f (pendT z s f - f) ++ o.1, o.2) := by
  obtain ⟨h1, h2, h3⟩ := pendT_b hf
  unfold pieceB
  dsimp only
  cases hs : sameT z s f with
  | true =>
    have hc : (colT z s f).length = z := by rw [← spanT_one, spanT_len hl (by omega), Nat.one_mul]
    have e1 : (UInt8.ofNat (128 + (pendT z s f - f - 1))).toNat % 128 + 1 = pendT z s f - f := by rw [u8_of _ (by omega)]; omega
    rw [if_pos rfl, List.cons_append, unpackT_cons _ _ _ _ (by omega), e1, if_neg (by omega), if_pos (by rw [u8_of _ (by omega)]; omega), if_neg (by rw [List.length_append]; omega)]
    rw [List.drop_append_of_le_length (by omega), List.drop_of_length_le (by omega), List.nil_append, List.take_append_of_le_length (by omega), List.take_of_length_le (by omega)]
    rw [spanT_same (c := colT z s f) (pendT z s f - f) (fun j hj => run_same hs j (by omega))]
  | false =>
    have hc : (spanT z s f (pendT z s f - f)).length = (pendT z s f - f) * z := spanT_len hl (by omega)
    have e1 : (UInt8.ofNat (pendT z s f - f - 1)).toNat % 128 + 1 = pendT z s f - f := by rw [u8_of _ (by omega)]; omega
    rw [if_neg (by simp), List.cons_append, unpackT_cons _ _ _ _ (by omega), e1, if_neg (by omega), if_neg (by rw [u8_of _ (by omega)]; omega), if_neg (by rw [List.length_append]; omega)]
    rw [List.drop_append_of_le_length (by omega), List.drop_of_length_le (by omega), List.nil_append, List.take_append_of_le_length (by omega), List.take_of_length_le (by omega)]

theorem packFrom_cons {z : Nat} {s : List UInt8} {n f : Nat} (hf : f < manyT z s) : packFrom z s (n + 1) f = pieceB z s (f, pendT z s f, sameT z s f) ++ packFrom z s n (pendT z s f) := by
  unfold packFrom; rw [piecesT, if_pos hf]; simp
theorem packFrom_done {z : Nat} {s : List UInt8} {n f : Nat} (hf : ¬ f < manyT z s) : packFrom z s n f = [] := by
  unfold packFrom
  cases n with
  | zero => rfl
  | succ n => rw [piecesT, if_neg hf]; rfl
/-- what is packed is unpacked; what stands behind goes on -/
theorem unpack_from {z : Nat} {s : List UInt8} (hz : 0 < z) (hl : s.length = manyT z s * z) : ∀ (n f b : Nat) (r : List UInt8), f ≤ manyT z s → manyT z s - f ≤ n →
    unpackT z (manyT z s - f + b) (packFrom z s n f ++ r) = (unpackT z b r).map fun o => (s.drop (f * z) ++ o.1, o.2)
  | n, f, b, r, hf, hn => by
    rcases Nat.lt_or_ge f (manyT z s) with h | h
    · cases n with
      | zero => omega
      | succ n =>
        obtain ⟨h1, h2, h3⟩ := pendT_b h
        rw [packFrom_cons h, List.append_assoc, unpack_piece hz hl h _ (by omega), show manyT z s - f + b - (pendT z s f - f) = manyT z s - pendT z s f + b by omega,
          unpack_from hz hl n (pendT z s f) b r h2 (by omega), Option.map_map]
        congr 1
        funext o
        simp only [Function.comp]
        have : s.drop (f * z) = spanT z s f (pendT z s f - f) ++ s.drop (pendT z s f * z) := by
          unfold spanT
          have e : pendT z s f * z = f * z + (pendT z s f - f) * z := by rw [← Nat.add_mul]; congr 1; omega
          rw [e, ← List.drop_drop, List.take_append_drop]
        rw [this, List.append_assoc]
    · have e : f = manyT z s := by omega
      subst e
      rw [packFrom_done (by omega), List.nil_append, Nat.sub_self, Nat.zero_add]
      have : s.drop (manyT z s * z) = [] := List.drop_of_length_le (by omega)
      rw [this]
      simp
theorem unpack_pack {z : Nat} {s : List UInt8} (hz : 0 < z) (hl : s.length = manyT z s * z) (b : Nat) (r : List UInt8) :
    unpackT z (manyT z s + b) (packT z s ++ r) = (unpackT z b r).map fun o => (s ++ o.1, o.2) := by
  have := unpack_from hz hl (manyT z s) 0 b r (Nat.zero_le _) (by omega)
  simpa [packT] using this

/-- how long the packed are -/
theorem pack_from_len {z : Nat} {s : List UInt8} (hz : 3 ≤ z) (hl : s.length = manyT z s * z) : ∀ (n f : Nat), f ≤ manyT z s →
    (packFrom z s n f).length ≤ (manyT z s - f) * z + (manyT z s - f) / 128 + (if sameT z s f then 0 else 1)
  | n, f, hf => by
    rcases Nat.lt_or_ge f (manyT z s) with h | h
    · cases n with
      | zero => simp [packFrom, piecesT]
      | succ n =>
        obtain ⟨h1, h2, h3⟩ := pendT_b h
        have ih := pack_from_len hz hl n (pendT z s f) h2
        rw [packFrom_cons h, List.length_append]
        have e1 : (manyT z s - f) * z = (manyT z s - pendT z s f) * z + (pendT z s f - f) * z := by rw [← Nat.add_mul]; congr 1; omega
        unfold pieceB
        dsimp only
        cases hs : sameT z s f with
        | true =>
          have hc : (colT z s f).length = z := by rw [← spanT_one, spanT_len hl (by omega), Nat.one_mul]
          have h4 := pendT_run hs
          have h5 : 2 * z ≤ (pendT z s f - f) * z := Nat.mul_le_mul_right _ (by omega)
          have h6 : (manyT z s - pendT z s f) / 128 ≤ (manyT z s - f) / 128 := Nat.div_le_div_right (by omega)
          rw [if_pos rfl, if_pos rfl, List.length_cons, hc]
          have h7 : (if sameT z s (pendT z s f) = true then 0 else 1) ≤ 1 := by split <;> omega
          omega
        | false =>
          have hc : (spanT z s f (pendT z s f - f)).length = (pendT z s f - f) * z := spanT_len hl (by omega)
          rw [if_neg (by simp), if_neg (by simp), List.length_cons, hc]
          rcases Nat.lt_or_ge (pendT z s f) (manyT z s) with g1 | g1
          · rcases Nat.lt_or_ge (pendT z s f) (f + 128) with g2 | g2
            · rw [lit_stop h hs g1 g2] at ih
              simp only [if_true] at ih
              have h6 : (manyT z s - pendT z s f) / 128 ≤ (manyT z s - f) / 128 := Nat.div_le_div_right (by omega)
              omega
            · have h7 : (if sameT z s (pendT z s f) = true then 0 else 1) ≤ 1 := by split <;> omega
              omega
          · rw [packFrom_done (by omega)]
            simp only [List.length_nil]
            have : (manyT z s - pendT z s f) * z = 0 := by rw [show manyT z s - pendT z s f = 0 by omega, Nat.zero_mul]
            omega
    · rw [packFrom_done (by omega)]; simp
theorem pack_len {z : Nat} {s : List UInt8} (hz : 3 ≤ z) (hl : s.length = manyT z s * z) : (packT z s).length ≤ s.length + manyT z s / 128 + 1 := by
  have := pack_from_len hz hl (manyT z s) 0 (Nat.zero_le _)
  rw [Nat.sub_zero, ← hl] at this
  have h7 : (if sameT z s 0 = true then 0 else 1) ≤ 1 := by split <;> omega
  unfold packT; omega
end Go.Proofs.Ytfkkppagbhllgaa

/-
  POINTS AND RECTANGLES as plain structures of integers. No program in sight.
-/
set_option linter.unusedVariables false
set_option linter.unusedSimpArgs false
namespace Go.Proofs.Ytfkkppagbhllgaa

structure Pt where
  x : Int
  y : Int
  deriving DecidableEq
structure Rc where
  x : Int
  y : Int
  w : Int
  h : Int
  deriving DecidableEq

end Go.Proofs.Ytfkkppagbhllgaa

/-
  WHAT THE PACKAGE dilate COMPUTES, as plain functions on lists. No program in sight.
-/
set_option linter.unusedVariables false
set_option linter.unusedSimpArgs false
namespace Go.Proofs.Ytfkkppagbhllgaa

/-- how far two numbers are apart, at most a thousand -/
def gapS (a b : Int) : Int := if a < b then min (b - a) 1000 else min (a - b) 1000
def farS (a b : Pt) : Int := max (gapS a.x b.x) (gapS a.y b.y)
theorem gapS_range (a b : Int) : 0 ≤ gapS a b ∧ gapS a b ≤ 1000 := by unfold gapS; split <;> omega
theorem farS_range (a b : Pt) : 0 ≤ farS a b ∧ farS a b ≤ 1000 := by
  have := gapS_range a.x b.x
  have := gapS_range a.y b.y
  unfold farS; omega
theorem gapS_comm (a b : Int) : gapS a b = gapS b a := by unfold gapS; split <;> split <;> omega
theorem farS_comm (a b : Pt) : farS a b = farS b a := by unfold farS; rw [gapS_comm a.x, gapS_comm a.y]
theorem gapS_tri (a b c : Int) : gapS a c ≤ gapS a b + gapS b c := by unfold gapS; split <;> split <;> split <;> omega
theorem farS_tri (a b c : Pt) : farS a c ≤ farS a b + farS b c := by
  have := gapS_tri a.x b.x c.x
  have := gapS_tri a.y b.y c.y
  unfold farS; omega
theorem gapS_zero (a b : Int) : gapS a b = 0 ↔ a = b := by unfold gapS; split <;> omega
theorem farS_zero (a b : Pt) : farS a b = 0 ↔ a = b := by
  have h1 := gapS_zero a.x b.x
  have h2 := gapS_zero a.y b.y
  have h3 := gapS_range a.x b.x
  have h4 := gapS_range a.y b.y
  obtain ⟨a1, a2⟩ := a
  obtain ⟨b1, b2⟩ := b
  unfold farS
  simp only at *
  rw [Pt.mk.injEq]
  omega

/-- -1 to 255 -/
def grey (x : Int) : Bool := decide (-1 ≤ x) && decide (x ≤ 255)
theorem grey_iff {x : Int} : grey x = true ↔ -1 ≤ x ∧ x ≤ 255 := by simp [grey]
/-- values in rows of w -/
def levelOk (w : Int) (v : List Int) : Bool :=
  decide (1 ≤ w) && decide (w ≤ 256) && decide ((v.length : Int) % w = 0) && decide ((v.length : Int) ≤ w * 256) && v.all grey
theorem levelOk_iff {w : Int} {v : List Int} : levelOk w v = true ↔ 1 ≤ w ∧ w ≤ 256 ∧ (v.length : Int) % w = 0 ∧ (v.length : Int) ≤ w * 256 ∧ ∀ x ∈ v, grey x = true := by
  simp [levelOk, and_assoc]
def padOk (pad : Int) : Bool := decide (0 ≤ pad) && decide (pad ≤ 8)
theorem padOk_iff {x : Int} : padOk x = true ↔ 0 ≤ x ∧ x ≤ 8 := by simp [padOk]

/-- the nearest with a value, of the first k texels: which, and how far -/
def nearTo (w : Nat) (v : List Int) (x y pad : Int) : Nat → Pt × Int
  | 0 => (⟨0, 0⟩, 1000)
  | k + 1 =>
    let s := nearTo w v x y pad k
    let t : Pt := ⟨(k % w : Nat), (k / w : Nat)⟩
    if 0 ≤ v.getD k (-1) ∧ farS ⟨x, y⟩ t ≤ pad ∧ farS ⟨x, y⟩ t < s.2 then (t, farS ⟨x, y⟩ t) else s
def nearS (w : Nat) (v : List Int) (x y pad : Int) : Pt × Bool := ((nearTo w v x y pad v.length).1, decide ((nearTo w v x y pad v.length).2 < 1000))

/-- Near, refusals and all -/
def nearOk (w pad : Int) (v : List Int) (x y : Int) : Bool := levelOk w v && padOk pad && (decide (0 ≤ x) && decide (x < w) && decide (0 ≤ y) && decide (y < (v.length : Int) / w))
def nearF (w pad : Int) (v : List Int) (x y : Int) : Pt × Bool := if nearOk w pad v x y then nearS w.toNat v x y pad else (⟨0, 0⟩, false)

/-- what lies at a texel behind the spreading -/
def spreadAt (w : Nat) (v : List Int) (pad : Int) (i : Nat) : Int :=
  let t := nearS w v (i % w : Nat) (i / w : Nat) pad
  if t.2 then v.getD (t.1.y * w + t.1.x).toNat (-1) else v.getD i (-1)
def spreadS (w : Nat) (v : List Int) (pad : Int) : List Int := (List.range v.length).map (spreadAt w v pad)
def spreadF (w pad : Int) (v : List Int) : List Int × Int := if levelOk w v && padOk pad then (spreadS w.toNat v pad, 0) else ([], 1)

/-- 0 to 255 -/
def backOk (x : Int) : Bool := decide (0 ≤ x) && decide (x ≤ 255)
theorem backOk_iff {x : Int} : backOk x = true ↔ 0 ≤ x ∧ x ≤ 255 := by simp [backOk]
def fillS (v : List Int) (back : Int) : List Int := v.map fun n => if n = -1 then back else n
def fillF (v : List Int) (back : Int) : List Int × Int := if backOk back && v.all grey then (fillS v back, 0) else ([], 1)
theorem fillF_no {v : List Int} {back : Int} (h : (backOk back && v.all grey) = false) : fillF v back = ([], 1) := by simp [fillF, h]
theorem fillF_yes {v : List Int} {back : Int} (h : (backOk back && v.all grey) = true) : fillF v back = (fillS v back, 0) := by unfold fillF; rw [h]; rfl

/-- a row whose first k places are told by f, the others by v -/
def mixI (f : Nat → Int) (v : List Int) (k : Nat) : List Int := (List.range k).map f ++ v.drop k
theorem mixI_zero (f : Nat → Int) (v : List Int) : mixI f v 0 = v := by simp [mixI]
theorem mixI_length (f : Nat → Int) (v : List Int) (k : Nat) (hk : k ≤ v.length) : (mixI f v k).length = v.length := by simp [mixI]; omega
theorem mixI_get (f : Nat → Int) (v : List Int) (k : Nat) : (mixI f v k)[k]? = v[k]? := by
  unfold mixI
  rw [List.getElem?_append_right (by simp)]
  simp
theorem mixI_set (f : Nat → Int) (v : List Int) (k : Nat) (hk : k < v.length) : (mixI f v k).set k (f k) = mixI f v (k + 1) := by
  refine List.ext_getElem? fun i => ?_
  rw [List.getElem?_set, mixI_length f v k (by omega)]
  unfold mixI
  by_cases h : k = i
  · subst h
    rw [if_pos rfl, if_pos hk, List.getElem?_append_left (by simp)]
    simp
  · rw [if_neg h]
    by_cases h2 : i < k
    · rw [List.getElem?_append_left (by simpa using h2), List.getElem?_append_left (by simp; omega)]
      simp [h2, show i < k + 1 by omega]
    · rw [List.getElem?_append_right (by simp; omega), List.getElem?_append_right (by simp; omega)]
      simp only [List.length_map, List.length_range, List.getElem?_drop]
      congr 1; omega
theorem mixI_same (f : Nat → Int) (v : List Int) (k : Nat) (hk : v[k]? = some (f k)) : mixI f v k = mixI f v (k + 1) := by
  have hl := (List.getElem?_eq_some_iff.1 hk).1
  rw [← mixI_set f v k hl]
  refine (List.ext_getElem? fun i => ?_)
  rw [List.getElem?_set]
  by_cases h : k = i
  · subst h; rw [if_pos rfl, if_pos (by rw [mixI_length f v k (by omega)]; exact hl), mixI_get, hk]
  · rw [if_neg h]
theorem mixI_done (f : Nat → Int) (v : List Int) : mixI f v v.length = (List.range v.length).map f := by simp [mixI]
def fillAt (v : List Int) (back : Int) (i : Nat) : Int := if v.getD i (-1) = -1 then back else v.getD i (-1)
theorem fillS_range (v : List Int) (back : Int) : (List.range v.length).map (fillAt v back) = fillS v back := by
  refine List.ext_getElem? fun i => ?_
  simp only [fillS, List.getElem?_map, fillAt]
  by_cases h : i < v.length
  · rw [List.getElem?_range h, List.getElem?_eq_getElem h]
    simp only [Option.map_some, fillAt, List.getD_eq_getElem?_getD, List.getElem?_eq_getElem h, Option.getD_some]
  · rw [List.getElem?_eq_none (by simp; omega), List.getElem?_eq_none (by omega)]; rfl

example : spreadF 4 1 [-1, -1, -1, 9, -1, -1, -1, -1, 5, -1, -1, -1] = ([-1, -1, 9, 9, 5, 5, 9, 9, 5, 5, -1, -1], 0) := by decide +kernel
example : nearF 4 8 [-1, -1, -1, 9, -1, -1, -1, -1, 5, -1, -1, -1] 1 1 = (⟨0, 2⟩, true) := by decide +kernel
end Go.Proofs.Ytfkkppagbhllgaa

/-
  A GREY PICTURE, in plain words. No program in sight.
-/
set_option linter.unusedVariables false
set_option linter.unusedSimpArgs false
namespace Go.Proofs.Ytfkkppagbhllgaa

def greyC (z : Nat) (x : Int) : List UInt8 := [UInt8.ofNat x.toNat, UInt8.ofNat x.toNat, UInt8.ofNat x.toNat, 255].take z
def greyT (z : Nat) (v : List Int) : List UInt8 := v.flatMap (greyC z)
def greyOk (ww : Int) (v : List Int) (b : Int) : Bool := levelOk ww v && !v.isEmpty && !(v.any ((-1 : Int) == ·)) && (b == 24 || b == 32)
theorem greyOk_iff {ww : Int} {v : List Int} {b : Int} : greyOk ww v b = true ↔ levelOk ww v = true ∧ 0 < v.length ∧ v.any ((-1 : Int) == ·) = false ∧ (b = 24 ∨ b = 32) := by
  unfold greyOk
  cases v with
  | nil => simp
  | cons a v => simp [and_assoc]
theorem greyC_len {z : Nat} (hz : z = 3 ∨ z = 4) (x : Int) : (greyC z x).length = z := by rcases hz with rfl | rfl <;> rfl
theorem greyT_len {z : Nat} (hz : z = 3 ∨ z = 4) (v : List Int) : (greyT z v).length = v.length * z := by
  induction v with
  | nil => simp [greyT]
  | cons a v ih =>
    unfold greyT at *
    rw [List.flatMap_cons, List.length_append, greyC_len hz, ih, List.length_cons, Nat.succ_mul]; omega
theorem greyT_snoc (z : Nat) (v : List Int) (x : Int) : greyT z (v ++ [x]) = greyT z v ++ greyC z x := by simp [greyT]
/-- a value is a byte -/
theorem grey_byte {x : Int} (h : grey x = true) (h1 : x ≠ -1) : ∃ b : UInt8, x = (b.toNat : Int) ∧ UInt8.ofNat x.toNat = b := by
  have := grey_iff.1 h
  have e : (UInt8.ofNat x.toNat).toNat = x.toNat := u8_of _ (by omega)
  exact ⟨UInt8.ofNat x.toNat, by rw [e]; omega, rfl⟩
end Go.Proofs.Ytfkkppagbhllgaa

/-
  A PICTURE's BYTES, in plain words: what is put is got, what is got is put. No program in sight.
-/
set_option linter.unusedVariables false
set_option linter.unusedSimpArgs false
namespace Go.Proofs.Ytfkkppagbhllgaa

/-- two bytes changed -/
def swapT (l : List UInt8) (i : Nat) : List UInt8 := (l.set i (l.getD (i + 2) 0)).set (i + 2) (l.getD i 0)
/-- red and blue changed in the first k colours -/
def turnK (z : Nat) (s : List UInt8) : Nat → List UInt8
  | 0 => s
  | k + 1 => swapT (turnK z s k) (k * z)
def turnedT (z : Nat) (s : List UInt8) : List UInt8 := turnK z s (s.length / z)
/-- where a byte comes from -/
def srcT (z j : Nat) : Nat := if j % z = 0 then j + 2 else if j % z = 2 then j - 2 else j

theorem swapT_len (l : List UInt8) (i : Nat) : (swapT l i).length = l.length := by simp [swapT]
theorem turnK_len (z : Nat) (s : List UInt8) : ∀ k, (turnK z s k).length = s.length
  | 0 => rfl
  | k + 1 => by rw [turnK, swapT_len, turnK_len z s k]
theorem turnedT_len (z : Nat) (s : List UInt8) : (turnedT z s).length = s.length := turnK_len z s _
theorem getD_get {l : List UInt8} {i : Nat} (h : i < l.length) : some (l.getD i 0) = l[i]? := by
  rw [List.getD_eq_getElem?_getD, List.getElem?_eq_getElem h]; rfl
theorem turnK_get {z : Nat} {s : List UInt8} (hz : z = 3 ∨ z = 4) : ∀ k, k * z ≤ s.length → ∀ j, (turnK z s k)[j]? = if j < k * z then s[srcT z j]? else s[j]?
  | 0, _, j => by simp [turnK]
  | k + 1, hk, j => by
    have hk' : k * z + z ≤ s.length := by rw [Nat.succ_mul] at hk; exact hk
    have ih := turnK_get (s := s) hz k (by omega)
    have hl := turnK_len z s k
    rw [turnK]
    unfold swapT
    have e0 : some ((turnK z s k).getD (k * z) 0) = s[k * z]? := by rw [getD_get (l := turnK z s k) (i := k * z) (by omega), ih, if_neg (by omega)]
    have e2 : some ((turnK z s k).getD (k * z + 2) 0) = s[k * z + 2]? := by rw [getD_get (l := turnK z s k) (i := k * z + 2) (by omega), ih, if_neg (by omega)]
    rw [List.getElem?_set, List.getElem?_set, List.length_set, hl]
    have em : (k + 1) * z = k * z + z := Nat.succ_mul _ _
    rw [em]
    by_cases h2 : k * z + 2 = j
    · subst h2
      have hs : srcT z (k * z + 2) = k * z := by
        unfold srcT
        rcases hz with rfl | rfl
        · rw [if_neg (by omega), if_pos (by omega)]; omega
        · rw [if_neg (by omega), if_pos (by omega)]; omega
      rw [if_pos rfl, if_pos (by omega), if_pos (by omega), hs, e0]
    · rw [if_neg h2]
      by_cases h0 : k * z = j
      · subst h0
        have hs : srcT z (k * z) = k * z + 2 := by
          unfold srcT
          rcases hz with rfl | rfl <;> rw [if_pos (by omega)]
        rw [if_pos rfl, if_pos (by omega), if_pos (by omega), hs, e2]
      · rw [if_neg h0, ih]
        by_cases hj : j < k * z
        · rw [if_pos hj, if_pos (by omega)]
        · rw [if_neg hj]
          by_cases hj2 : j < k * z + z
          · rw [if_pos hj2]
            have hs : srcT z j = j := by
              unfold srcT
              rcases hz with rfl | rfl <;> rw [if_neg (by omega), if_neg (by omega)]
            rw [hs]
          · rw [if_neg hj2]
theorem turnedT_get {z : Nat} {s : List UInt8} (hz : z = 3 ∨ z = 4) (hl : s.length = s.length / z * z) (j : Nat) (hj : j < s.length) : (turnedT z s)[j]? = s[srcT z j]? := by
  unfold turnedT
  rw [turnK_get hz _ (by omega), if_pos (by omega)]
/-- turned twice -/
theorem turned_twice {z : Nat} {s : List UInt8} (hz : z = 3 ∨ z = 4) (hl : s.length = s.length / z * z) : turnedT z (turnedT z s) = s := by
  refine List.ext_getElem? fun j => ?_
  have h1 := turnedT_len z s
  have hl' : (turnedT z s).length = (turnedT z s).length / z * z := by rw [h1]; exact hl
  by_cases hj : j < s.length
  · have hb : srcT z j < s.length ∧ srcT z (srcT z j) = j := by
      unfold srcT
      generalize s.length = n at *
      rcases hz with rfl | rfl
      · split
        · rw [if_neg (by omega), if_pos (by omega)]; omega
        · split
          · rw [if_pos (by omega)]; omega
          · exact ⟨hj, rfl⟩
      · split
        · rw [if_neg (by omega), if_pos (by omega)]; omega
        · split
          · rw [if_pos (by omega)]; omega
          · exact ⟨hj, rfl⟩
    rw [turnedT_get hz hl' j (by omega), turnedT_get hz hl _ hb.1, hb.2]
  · rw [List.getElem?_eq_none (by rw [turnedT_len, h1]; omega), List.getElem?_eq_none (by omega)]

def formT (w h bits : Int) : Bool := decide (1 ≤ w ∧ w ≤ 256 ∧ 1 ≤ h ∧ h ≤ 256 ∧ (bits = 24 ∨ bits = 32))
def isT (w h bits : Int) (n : Nat) : Bool := formT w h bits && decide ((n : Int) = w * h * (bits / 8))
def headT (w h z : Nat) (packed top : Bool) : List UInt8 :=
  [0, 0, if packed then 10 else 2, 0, 0, 0, 0, 0, 0, 0, 0, 0, UInt8.ofNat (w % 256), UInt8.ofNat (w / 256), UInt8.ofNat (h % 256), UInt8.ofNat (h / 256), UInt8.ofNat (8 * z), UInt8.ofNat ((if z = 4 then 8 else 0) + (if top then 32 else 0))]
def footT : List UInt8 := [0, 0, 0, 0, 0, 0, 0, 0, 84, 82, 85, 69, 86, 73, 83, 73, 79, 78, 45, 88, 70, 73, 76, 69, 46, 0]
def rowT (w z : Nat) (d : List UInt8) (y : Nat) : List UInt8 := (d.drop (w * z * y)).take (w * z)
def ordT (h : Nat) (top : Bool) (i : Nat) : Nat := if top then i else h - 1 - i
def putRow (packed : Bool) (z : Nat) (t : List UInt8) : List UInt8 := if packed then packT z t else t
def putT (w h z : Nat) (d : List UInt8) (packed top : Bool) : List UInt8 :=
  headT w h z packed top ++ ((List.range h).flatMap fun i => putRow packed z (turnedT z (rowT w z d (ordT h top i)))) ++ footT

def takeRow (packed : Bool) (z w : Nat) (s : List UInt8) : Option (List UInt8 × List UInt8) :=
  if packed then unpackT z w s else if s.length < z * w then none else some (s.take (z * w), s.drop (z * w))
def rowsT (packed : Bool) (z w : Nat) : Nat → List UInt8 → Option (List (List UInt8) × List UInt8)
  | 0, s => some ([], s)
  | n + 1, s => match takeRow packed z w s with
    | none => none
    | some o => (rowsT packed z w n o.2).map fun q => (o.1 :: q.1, q.2)
/-- rows as they stand in an image, from the upper one on -/
def dataT (z : Nat) (top : Bool) (rs : List (List UInt8)) : List UInt8 := ((if top then rs else rs.reverse).map (turnedT z)).flatten
structure Im where
  w : Nat
  h : Nat
  z : Nat
  d : List UInt8
def b2 (s : List UInt8) (i : Nat) : Nat := (s.getD i 0).toNat + 256 * (s.getD (i + 1) 0).toNat
def bits (s : List UInt8) : Nat := (s.getD 16 0).toNat
def isPacked (s : List UInt8) : Bool := s.getD 2 0 == 10
def isTop (s : List UInt8) : Bool := decide (32 ≤ (s.getD 17 0).toNat)
def headOk (s : List UInt8) : Bool := formT (b2 s 12) (b2 s 14) (bits s) && (s.take 18 == headT (b2 s 12) (b2 s 14) (bits s / 8) (isPacked s) (isTop s))
def getT (s : List UInt8) : Option Im :=
  if s.length < 18 then none
  else if headOk s then
    match rowsT (isPacked s) (bits s / 8) (b2 s 12) (b2 s 14) (s.drop 18) with
    | none => none
    | some o => if o.2 = footT then some ⟨b2 s 12, b2 s 14, bits s / 8, dataT (bits s / 8) (isTop s) o.1⟩ else none
  else none

structure Im.ok (m : Im) : Prop where
  w1 : 1 ≤ m.w
  w2 : m.w ≤ 256
  h1 : 1 ≤ m.h
  h2 : m.h ≤ 256
  z : m.z = 3 ∨ m.z = 4
  n : m.d.length = m.w * m.h * m.z

theorem headT_len (w h z : Nat) (p t : Bool) : (headT w h z p t).length = 18 := rfl
theorem head_packed (w h z : Nat) (p t : Bool) (r : List UInt8) : isPacked (headT w h z p t ++ r) = p := by
  unfold isPacked headT; cases p <;> rfl
theorem head_top {w h z : Nat} (hz : z = 3 ∨ z = 4) (p t : Bool) (r : List UInt8) : isTop (headT w h z p t ++ r) = t := by
  unfold isTop headT; rcases hz with rfl | rfl <;> cases t <;> rfl
theorem head_bits {w h z : Nat} (hz : z = 3 ∨ z = 4) (p t : Bool) (r : List UInt8) : bits (headT w h z p t ++ r) = 8 * z := by
  unfold bits headT; rcases hz with rfl | rfl <;> rfl
theorem head_w {w h z : Nat} (hw : w ≤ 256) (p t : Bool) (r : List UInt8) : b2 (headT w h z p t ++ r) 12 = w := by
  unfold b2 headT
  show (UInt8.ofNat (w % 256)).toNat + 256 * (UInt8.ofNat (w / 256)).toNat = w
  rw [u8_of _ (by omega), u8_of _ (by omega)]; omega
theorem head_h {w h z : Nat} (hh : h ≤ 256) (p t : Bool) (r : List UInt8) : b2 (headT w h z p t ++ r) 14 = h := by
  unfold b2 headT
  show (UInt8.ofNat (h % 256)).toNat + 256 * (UInt8.ofNat (h / 256)).toNat = h
  rw [u8_of _ (by omega), u8_of _ (by omega)]; omega

theorem take_put {z w : Nat} {t : List UInt8} (packed : Bool) (hz : 0 < z) (hl : t.length = w * z) (r : List UInt8) : takeRow packed z w (putRow packed z t ++ r) = some (t, r) := by
  unfold takeRow putRow
  cases packed with
  | false =>
    simp only [Bool.false_eq_true, if_false]
    rw [Nat.mul_comm z w, if_neg (by rw [List.length_append]; omega), List.take_append_of_le_length (by omega), List.take_of_length_le (by omega), List.drop_append_of_le_length (by omega), List.drop_of_length_le (by omega), List.nil_append]
  | true =>
    rw [if_pos rfl, if_pos rfl]
    have hm : manyT z t = w := by unfold manyT; rw [hl]; exact Nat.mul_div_cancel _ hz
    have := unpack_pack (z := z) (s := t) hz (by rw [hm]; exact hl) 0 r
    rw [hm, Nat.add_zero] at this
    rw [this, unpackT_zero]
    simp
theorem rows_put {z w : Nat} (packed : Bool) (hz : 0 < z) (f : Nat → List UInt8) (hl : ∀ i, (f i).length = w * z) : ∀ (n k : Nat) (r : List UInt8),
    rowsT packed z w n (((List.range' k n).flatMap fun i => putRow packed z (f i)) ++ r) = some ((List.range' k n).map f, r)
  | 0, k, r => by simp [rowsT]
  | n + 1, k, r => by
    rw [List.range'_succ, List.flatMap_cons, List.append_assoc, rowsT, take_put packed hz (hl k)]
    dsimp only
    rw [rows_put packed hz f hl n (k + 1) r]
    simp
theorem rows_put_z {z w : Nat} (packed : Bool) (hz : 0 < z) (f : Nat → List UInt8) (n : Nat) (hl : ∀ i, i < n → (f i).length = w * z) (r : List UInt8) :
    rowsT packed z w n (((List.range n).flatMap fun i => putRow packed z (f i)) ++ r) = some ((List.range n).map f, r) := by
  have h := rows_put packed hz (fun i => if i < n then f i else List.replicate (w * z) 0) (fun i => by
    by_cases h9 : i < n
    · simp only [if_pos h9]; exact hl i h9
    · simp only [if_neg h9]; simp) n 0 r
  rw [← List.range_eq_range'] at h
  rw [show ((List.range n).flatMap fun i => putRow packed z (f i)) = ((List.range n).flatMap fun i => putRow packed z ((fun i => if i < n then f i else List.replicate (w * z) 0) i)) from ?_, h]
  · congr 2
    refine List.map_congr_left fun i hi => ?_
    rw [if_pos (List.mem_range.1 hi)]
  · rw [List.flatMap_def, List.flatMap_def]
    congr 1
    refine List.map_congr_left fun i hi => ?_
    dsimp only
    rw [if_pos (List.mem_range.1 hi)]

theorem ord_list (h : Nat) (top : Bool) : (if top then (List.range h).map (ordT h top) else ((List.range h).map (ordT h top)).reverse) = List.range h := by
  cases top with
  | true =>
    rw [if_pos rfl]
    have : (List.range h).map (ordT h true) = (List.range h).map id := List.map_congr_left fun i _ => rfl
    rw [this, List.map_id]
  | false =>
    rw [if_neg (by simp)]
    refine List.ext_getElem? fun j => ?_
    by_cases hj : j < h
    · rw [List.getElem?_reverse (by simpa using hj)]
      simp only [List.length_map, List.length_range, List.getElem?_map]
      rw [List.getElem?_range (by omega), List.getElem?_range hj]
      simp only [Option.map_some, ordT]
      congr 1
      simp
      omega
    · rw [List.getElem?_eq_none (by simp; omega), List.getElem?_eq_none (by simp; omega)]
theorem ord_map (h : Nat) (top : Bool) (G : Nat → List UInt8) : (if top then (List.range h).map (fun i => G (ordT h top i)) else ((List.range h).map fun i => G (ordT h top i)).reverse) = (List.range h).map G := by
  have := congrArg (List.map G) (ord_list h top)
  rw [← this]
  cases top with
  | true => rw [if_pos rfl, if_pos rfl, List.map_map]; rfl
  | false => rw [if_neg (by simp), if_neg (by simp), List.map_reverse, List.map_map]; rfl
theorem rows_all {n : Nat} : ∀ (h : Nat) (d : List UInt8), d.length = h * n → ((List.range h).map fun y => (d.drop (n * y)).take n).flatten = d
  | 0, d, hd => by
    have : d = [] := List.eq_nil_of_length_eq_zero (by omega)
    subst this; rfl
  | h + 1, d, hd => by
    rw [List.range_succ_eq_map, List.map_cons, List.flatten_cons, List.map_map]
    have hd' : d.length = h * n + n := by rw [hd, Nat.succ_mul]
    have ih := rows_all (n := n) h (d.drop n) (by rw [List.length_drop, hd']; omega)
    have e : ((fun y => (d.drop (n * y)).take n) ∘ Nat.succ) = fun y => ((d.drop n).drop (n * y)).take n := by
      funext y
      simp only [Function.comp]
      rw [List.drop_drop]
      congr 2
      rw [Nat.mul_succ]; omega
    rw [e, ih, Nat.mul_zero, List.drop_zero, List.take_append_drop]
theorem row_len {m : Im} (h : m.ok) {y : Nat} (hy : y < m.h) : (rowT m.w m.z m.d y).length = m.w * m.z := by
  unfold rowT
  rw [List.length_take, List.length_drop, h.n]
  have : m.w * m.z * y + m.w * m.z ≤ m.w * m.h * m.z := by
    rw [← Nat.mul_succ, Nat.mul_assoc m.w m.h, Nat.mul_comm m.h, ← Nat.mul_assoc]
    exact Nat.mul_le_mul_left _ hy
  omega
theorem mul_mod_ok {n z : Nat} (hz : 0 < z) : (n * z) = (n * z) / z * z := by rw [Nat.mul_div_cancel _ hz]
theorem ordT_lt {h i : Nat} (top : Bool) (hi : i < h) : ordT h top i < h := by unfold ordT; split <;> omega
theorem form_of {m : Im} (h : m.ok) : formT m.w m.h ((8 * m.z : Nat) : Int) = true := by
  have := h.w1; have := h.w2; have := h.h1; have := h.h2; have := h.z
  unfold formT
  rw [decide_eq_true_iff]
  omega
/-- what is put is got -/
theorem get_put {m : Im} (h : m.ok) (packed top : Bool) : getT (putT m.w m.h m.z m.d packed top) = some m := by
  have hz : 0 < m.z := by have := h.z; omega
  unfold getT putT
  rw [List.append_assoc]
  have hf := form_of h
  rw [if_neg (by rw [List.length_append, headT_len]; omega)]
  have hd : ∀ r, (headT m.w m.h m.z packed top ++ r).drop 18 = r := fun r => by
    rw [List.drop_append_of_le_length (by rw [headT_len]; omega), List.drop_of_length_le (by rw [headT_len]; omega), List.nil_append]
  have ht : ∀ r, (headT m.w m.h m.z packed top ++ r).take 18 = headT m.w m.h m.z packed top := fun r => by
    rw [List.take_append_of_le_length (by rw [headT_len]; omega), List.take_of_length_le (by rw [headT_len]; omega)]
  unfold headOk
  rw [head_w h.w2, head_h h.h2, head_bits h.z, head_packed, head_top h.z, hd, ht, Nat.mul_div_cancel_left _ (by omega : 0 < 8), hf]
  simp only [BEq.rfl, Bool.and_self, if_true]
  rw [rows_put_z packed hz (fun i => turnedT m.z (rowT m.w m.z m.d (ordT m.h top i))) m.h (fun i hi => by rw [turnedT_len, row_len h (ordT_lt top hi)])]
  dsimp only
  rw [if_pos rfl]
  have e : dataT m.z top ((List.range m.h).map fun i => turnedT m.z (rowT m.w m.z m.d (ordT m.h top i))) = m.d := by
    have e2 : (if top then ((List.range m.h).map fun i => turnedT m.z (rowT m.w m.z m.d (ordT m.h top i))) else ((List.range m.h).map fun i => turnedT m.z (rowT m.w m.z m.d (ordT m.h top i))).reverse) = (List.range m.h).map fun y => turnedT m.z (rowT m.w m.z m.d y) := by
      exact ord_map m.h top fun y => turnedT m.z (rowT m.w m.z m.d y)
    unfold dataT
    rw [e2, List.map_map]
    have e3 : ((List.range m.h).map (turnedT m.z ∘ fun y => turnedT m.z (rowT m.w m.z m.d y))) = (List.range m.h).map fun y => (m.d.drop (m.w * m.z * y)).take (m.w * m.z) := by
      refine List.map_congr_left fun y hy => ?_
      have hr := row_len h (List.mem_range.1 hy)
      simp only [Function.comp]
      rw [turned_twice h.z (by rw [hr]; exact mul_mod_ok hz)]
      rfl
    rw [e3]
    refine rows_all m.h m.d ?_
    rw [h.n, Nat.mul_comm m.w m.h, Nat.mul_assoc]
  rw [e]
theorem put_len {m : Im} (h : m.ok) (top : Bool) : (putT m.w m.h m.z m.d false top).length = 44 + m.d.length := by
  unfold putT
  rw [List.length_append, List.length_append, headT_len]
  have : ∀ n, n ≤ m.h → ((List.range n).flatMap fun i => putRow false m.z (turnedT m.z (rowT m.w m.z m.d (ordT m.h top i)))).length = n * (m.w * m.z) := by
    intro n
    induction n with
    | zero => intro _; simp
    | succ n ih =>
      intro hn
      rw [List.range_succ, List.flatMap_append, List.length_append, ih (by omega), Nat.succ_mul]
      simp only [List.flatMap_cons, List.flatMap_nil, List.append_nil]
      rw [show putRow false m.z (turnedT m.z (rowT m.w m.z m.d (ordT m.h top n))) = turnedT m.z (rowT m.w m.z m.d (ordT m.h top n)) from rfl, turnedT_len, row_len h (ordT_lt top (by omega))]
  rw [this m.h (Nat.le_refl _), h.n, show footT.length = 26 from rfl, Nat.mul_assoc m.w m.h, Nat.mul_comm m.h m.z, ← Nat.mul_assoc m.w m.z, Nat.mul_comm (m.w * m.z)]
  omega

theorem unpack_out {z : Nat} (hz : 0 < z) : ∀ (need : Nat) (s : List UInt8) (o : List UInt8 × List UInt8), unpackT z need s = some o → o.1.length = need * z
  | need, s, o, h => by
    by_cases h0 : need = 0
    · subst h0
      rw [unpackT_zero] at h
      cases h; simp
    · cases s with
      | nil => rw [unpackT_nil h0] at h; cases h
      | cons c t =>
        rw [unpackT_cons _ _ _ _ h0] at h
        split at h
        · cases h
        · rename_i h1
          have em : need * z = (c.toNat % 128 + 1) * z + (need - (c.toNat % 128 + 1)) * z := by rw [← Nat.add_mul]; congr 1; omega
          split at h
          · split at h
            · cases h
            · rename_i h2 h3
              cases hu : unpackT z (need - (c.toNat % 128 + 1)) (t.drop z) with
              | none => rw [hu] at h; cases h
              | some q =>
                rw [hu] at h
                simp only [Option.map_some, Option.some.injEq] at h
                subst h
                have ih := unpack_out hz _ _ _ hu
                simp only [List.length_append, List.length_flatten, List.map_replicate, List.sum_replicate_nat, List.length_take, ih]
                rw [em, Nat.min_eq_left (by omega)]
          · split at h
            · cases h
            · rename_i h2 h3
              cases hu : unpackT z (need - (c.toNat % 128 + 1)) (t.drop ((c.toNat % 128 + 1) * z)) with
              | none => rw [hu] at h; cases h
              | some q =>
                rw [hu] at h
                simp only [Option.map_some, Option.some.injEq] at h
                subst h
                have ih := unpack_out hz _ _ _ hu
                simp only [List.length_append, List.length_take, ih]
                rw [em, Nat.min_eq_left (by omega)]
termination_by need => need
theorem takeRow_out {packed : Bool} {z w : Nat} (hz : 0 < z) {s : List UInt8} {o : List UInt8 × List UInt8} (h : takeRow packed z w s = some o) : o.1.length = w * z := by
  unfold takeRow at h
  split at h
  · exact unpack_out hz _ _ _ h
  · split at h
    · cases h
    · cases h
      simp only [List.length_take]
      rw [Nat.mul_comm w z]; omega
theorem rows_out {packed : Bool} {z w : Nat} (hz : 0 < z) : ∀ (n : Nat) (s : List UInt8) (o : List (List UInt8) × List UInt8), rowsT packed z w n s = some o → o.1.length = n ∧ ∀ r ∈ o.1, r.length = w * z
  | 0, s, o, h => by simp [rowsT] at h; subst h; simp
  | n + 1, s, o, h => by
    rw [rowsT] at h
    cases ht : takeRow packed z w s with
    | none => rw [ht] at h; cases h
    | some q =>
      rw [ht] at h
      dsimp only at h
      cases hr : rowsT packed z w n q.2 with
      | none => rw [hr] at h; cases h
      | some p =>
        rw [hr] at h
        simp only [Option.map_some, Option.some.injEq] at h
        subst h
        obtain ⟨h1, h2⟩ := rows_out hz n _ _ hr
        have h3 := takeRow_out hz ht
        refine ⟨by simp [h1], fun r hm => ?_⟩
        rcases List.mem_cons.1 hm with rfl | hm
        · exact h3
        · exact h2 r hm
theorem flat_len {n : Nat} : ∀ (rs : List (List UInt8)), (∀ r ∈ rs, r.length = n) → rs.flatten.length = rs.length * n
  | [], _ => by simp
  | r :: rs, h => by
    rw [List.flatten_cons, List.length_append, h r List.mem_cons_self, flat_len rs (fun x hx => h x (List.mem_cons_of_mem _ hx)), List.length_cons, Nat.succ_mul]; omega
theorem data_len {z n : Nat} (top : Bool) (rs : List (List UInt8)) (h : ∀ r ∈ rs, r.length = n) : (dataT z top rs).length = rs.length * n := by
  unfold dataT
  have h2 : ∀ r ∈ (if top then rs else rs.reverse).map (turnedT z), r.length = n := by
    intro r hr
    obtain ⟨x, hx, rfl⟩ := List.mem_map.1 hr
    rw [turnedT_len]
    refine h x ?_
    cases top
    · simpa using hx
    · simpa using hx
  rw [flat_len _ h2]
  cases top <;> simp
/-- what is got is right -/
theorem get_ok {s : List UInt8} {m : Im} (h : getT s = some m) : m.ok ∧ 18 ≤ s.length := by
  unfold getT at h
  split at h
  · cases h
  · rename_i hl
    split at h
    · rename_i hh
      unfold headOk at hh
      simp only [Bool.and_eq_true] at hh
      obtain ⟨h1, h2⟩ := hh
      unfold formT at h1
      rw [decide_eq_true_iff] at h1
      have hz : bits s / 8 = 3 ∨ bits s / 8 = 4 := by omega
      cases hr : rowsT (isPacked s) (bits s / 8) (b2 s 12) (b2 s 14) (s.drop 18) with
      | none => rw [hr] at h; cases h
      | some o =>
        rw [hr] at h
        dsimp only at h
        split at h
        · cases h
          obtain ⟨g1, g2⟩ := rows_out (by omega) _ _ _ hr
          refine ⟨⟨by show 1 ≤ b2 s 12; omega, by show b2 s 12 ≤ 256; omega, by show 1 ≤ b2 s 14; omega, by show b2 s 14 ≤ 256; omega, hz, ?_⟩, by omega⟩
          show (dataT _ _ _).length = _
          rw [data_len _ _ g2, g1, Nat.mul_comm (b2 s 12) (b2 s 14), Nat.mul_assoc]
        · cases h
    · cases h
theorem rows_plain {z w : Nat} : ∀ (n : Nat) (s : List UInt8) (o : List (List UInt8) × List UInt8), rowsT false z w n s = some o → s = o.1.flatten ++ o.2
  | 0, s, o, h => by simp [rowsT] at h; subst h; rfl
  | n + 1, s, o, h => by
    rw [rowsT] at h
    cases ht : takeRow false z w s with
    | none => rw [ht] at h; cases h
    | some q =>
      rw [ht] at h
      dsimp only at h
      cases hr : rowsT false z w n q.2 with
      | none => rw [hr] at h; cases h
      | some p =>
        rw [hr] at h
        simp only [Option.map_some, Option.some.injEq] at h
        subst h
        have ih := rows_plain n _ _ hr
        unfold takeRow at ht
        simp only [Bool.false_eq_true, if_false] at ht
        split at ht
        · cases ht
        · cases ht
          simp only [List.flatten_cons, List.append_assoc]
          rw [← ih, List.take_append_drop]
theorem flat_cut {n : Nat} : ∀ (rs : List (List UInt8)) (y : Nat), (∀ r ∈ rs, r.length = n) → (rs.flatten.drop (n * y)).take n = rs.getD y []
  | [], y, _ => by simp
  | r :: rs, 0, h => by
    have := h r List.mem_cons_self
    simp only [Nat.mul_zero, List.drop_zero, List.flatten_cons, List.getD_cons_zero]
    rw [List.take_append_of_le_length (by omega), List.take_of_length_le (by omega)]
  | r :: rs, y + 1, h => by
    have h1 := h r List.mem_cons_self
    simp only [List.flatten_cons, List.getD_cons_succ]
    rw [List.drop_append, List.drop_of_length_le (by rw [Nat.mul_succ]; omega), List.nil_append, h1, show n * (y + 1) - n = n * y by rw [Nat.mul_succ]; omega]
    exact flat_cut rs y fun x hx => h x (List.mem_cons_of_mem _ hx)
/-- what is got plain is put as it was -/
theorem put_get {s : List UInt8} {m : Im} (h : getT s = some m) (hp : isPacked s = false) : putT m.w m.h m.z m.d false (isTop s) = s := by
  unfold getT at h
  split at h
  · cases h
  · rename_i hl
    split at h
    · rename_i hh
      unfold headOk at hh
      simp only [Bool.and_eq_true, beq_iff_eq] at hh
      obtain ⟨h1, h2⟩ := hh
      unfold formT at h1
      rw [decide_eq_true_iff] at h1
      have hz : bits s / 8 = 3 ∨ bits s / 8 = 4 := by omega
      rw [hp] at h h2
      cases hr : rowsT false (bits s / 8) (b2 s 12) (b2 s 14) (s.drop 18) with
      | none => rw [hr] at h; cases h
      | some o =>
        rw [hr] at h
        dsimp only at h
        split at h
        · rename_i hft
          cases h
          dsimp only
          obtain ⟨g1, g2⟩ := rows_out (by omega) _ _ _ hr
          have g3 := rows_plain _ _ _ hr
          unfold putT
          rw [← h2]
          have e : ((List.range (b2 s 14)).flatMap fun i => putRow false (bits s / 8) (turnedT (bits s / 8) (rowT (b2 s 12) (bits s / 8) (dataT (bits s / 8) (isTop s) o.1) (ordT (b2 s 14) (isTop s) i)))) = o.1.flatten := by
            rw [List.flatMap_def]
            congr 1
            refine List.ext_getElem? fun i => ?_
            by_cases hi : i < b2 s 14
            · rw [List.getElem?_map, List.getElem?_range hi, Option.map_some]
              show some (turnedT _ _) = _
              unfold rowT dataT
              rw [flat_cut]
              · have hi2 : i < o.1.length := by omega
                have e5 : ((if isTop s = true then o.1 else o.1.reverse).map (turnedT (bits s / 8))).getD (ordT (b2 s 14) (isTop s) i) [] = turnedT (bits s / 8) o.1[i] := by
                  rw [List.getD_eq_getElem?_getD, List.getElem?_map]
                  unfold ordT
                  cases isTop s with
                  | true => simp [List.getElem?_eq_getElem hi2]
                  | false =>
                    simp only [Bool.false_eq_true, if_false]
                    rw [List.getElem?_reverse (by omega), show o.1.length - 1 - (b2 s 14 - 1 - i) = i by omega, List.getElem?_eq_getElem hi2]
                    rfl
                rw [e5, turned_twice hz (by rw [g2 _ (List.getElem_mem hi2)]; exact mul_mod_ok (by omega)), List.getElem?_eq_getElem hi2]
              · intro r hr'
                obtain ⟨x, hx, rfl⟩ := List.mem_map.1 hr'
                rw [turnedT_len]
                refine g2 x ?_
                cases h9 : isTop s <;> simpa [h9] using hx
            · rw [List.getElem?_eq_none (by simp; omega), List.getElem?_eq_none (by omega)]
          rw [e, List.append_assoc, ← hft, ← g3, List.take_append_drop]
        · cases h
    · cases h
end Go.Proofs.Ytfkkppagbhllgaa

/-
  A PICTURE's ROWS laid one by one, in plain words. No program in sight.
-/
set_option linter.unusedVariables false
set_option linter.unusedSimpArgs false
namespace Go.Proofs.Ytfkkppagbhllgaa

/-- what an image's bytes are when some rows are laid -/
def contT (z n q : Nat) (top : Bool) (rs : List (List UInt8)) : List UInt8 :=
  if top then (rs.map (turnedT z)).flatten ++ List.replicate ((q - rs.length) * n) 0 else List.replicate ((q - rs.length) * n) 0 ++ (rs.reverse.map (turnedT z)).flatten
theorem cont_zero (z n q : Nat) (top : Bool) : contT z n q top [] = List.replicate (q * n) 0 := by unfold contT; cases top <;> simp
theorem cont_done {z n q : Nat} {top : Bool} {rs : List (List UInt8)} (h : rs.length = q) : contT z n q top rs = dataT z top rs := by
  unfold contT dataT
  rw [h, Nat.sub_self, Nat.zero_mul]
  cases top <;> simp
theorem turned_rows {z n : Nat} {rs : List (List UInt8)} (h : ∀ r ∈ rs, r.length = n) : ∀ r ∈ rs.map (turnedT z), r.length = n := by
  intro r hr
  obtain ⟨x, hx, rfl⟩ := List.mem_map.1 hr
  rw [turnedT_len]; exact h x hx
theorem cont_len {z n q : Nat} {top : Bool} {rs : List (List UInt8)} (h : ∀ r ∈ rs, r.length = n) (hq : rs.length ≤ q) : (contT z n q top rs).length = q * n := by
  have e : (q - rs.length) * n + rs.length * n = q * n := by rw [← Nat.add_mul]; congr 1; omega
  unfold contT
  cases top
  · have := flat_len _ (turned_rows (z := z) (rs := rs.reverse) (fun r hr => h r (by simpa using hr)))
    simp only [Bool.false_eq_true, if_false, List.length_append, List.length_replicate, this, List.length_map, List.length_reverse]
    exact e
  · have := flat_len _ (turned_rows (z := z) h)
    simp only [if_true, List.length_append, List.length_replicate, this, List.length_map]
    omega
theorem cont_step {z n q : Nat} {top : Bool} {rs : List (List UInt8)} {t : List UInt8} (h : ∀ r ∈ rs, r.length = n) (hq : rs.length < q) (ht : t.length = n) :
    (contT z n q top rs).take (ordT q top rs.length * n) ++ turnedT z t ++ (contT z n q top rs).drop (ordT q top rs.length * n + n) = contT z n q top (rs ++ [t]) := by
  unfold contT ordT
  cases top
  · have hl := flat_len _ (turned_rows (z := z) (rs := rs.reverse) (fun r hr => h r (by simpa using hr)))
    have e1 : (q - 1 - rs.length) * n + n = (q - rs.length) * n := by rw [← Nat.succ_mul]; congr 1; omega
    have e2 : (q - 1 - rs.length) * n ≤ (q - rs.length) * n := Nat.mul_le_mul_right _ (by omega)
    simp only [Bool.false_eq_true, if_false]
    rw [e1, List.take_append_of_le_length (by simpa using e2), List.take_replicate, Nat.min_eq_left e2]
    rw [List.drop_append, List.drop_of_length_le (by simp), List.nil_append, List.length_replicate, Nat.sub_self, List.drop_zero]
    have e3 : q - (rs ++ [t]).length = q - 1 - rs.length := by simp; omega
    rw [e3]
    simp
  · have hl := flat_len _ (turned_rows (z := z) h)
    rw [List.length_map] at hl
    simp only [if_true]
    rw [List.take_append_of_le_length (by omega), List.take_of_length_le (by omega)]
    rw [List.drop_append, List.drop_of_length_le (by omega), List.nil_append, hl, List.drop_replicate]
    have e3 : (q - rs.length) * n - (rs.length * n + n - rs.length * n) = (q - (rs ++ [t]).length) * n := by
      have e4 : (q - rs.length) * n = (q - (rs ++ [t]).length) * n + n := by rw [← Nat.succ_mul]; congr 1; simp; omega
      omega
    rw [e3]
    simp
/-- how far the reading stands -/
def RdSt (packed : Bool) (z w q : Nat) (s : List UInt8) (rs : List (List UInt8)) (rest : List UInt8) : Prop :=
  rs.length ≤ q ∧ (∀ r ∈ rs, r.length = w * z) ∧ rowsT packed z w q s = (rowsT packed z w (q - rs.length) rest).map fun o => (rs ++ o.1, o.2)
theorem RdSt.start (packed : Bool) (z w q : Nat) (s : List UInt8) : RdSt packed z w q s [] s := ⟨by simp, by simp, by cases rowsT packed z w q s <;> simp⟩
theorem RdSt.none {packed : Bool} {z w q : Nat} {s rest : List UInt8} {rs : List (List UInt8)} (h : RdSt packed z w q s rs rest) (hq : rs.length < q) (ht : takeRow packed z w rest = .none) : rowsT packed z w q s = .none := by
  rw [h.2.2, show q - rs.length = (q - rs.length - 1) + 1 by omega, rowsT, ht]; rfl
theorem RdSt.some {packed : Bool} {z w q : Nat} {s rest : List UInt8} {rs : List (List UInt8)} (h : RdSt packed z w q s rs rest) (hz : 0 < z) (hq : rs.length < q) {o : List UInt8 × List UInt8} (ht : takeRow packed z w rest = .some o) : RdSt packed z w q s (rs ++ [o.1]) o.2 := by
  refine ⟨by simp; omega, fun r hr => ?_, ?_⟩
  · rcases List.mem_append.1 hr with hr | hr
    · exact h.2.1 r hr
    · rw [List.mem_singleton.1 hr]; exact takeRow_out hz ht
  · rw [h.2.2, show q - rs.length = (q - rs.length - 1) + 1 by omega, rowsT, ht]
    dsimp only
    rw [Option.map_map, show q - (rs ++ [o.1]).length = q - rs.length - 1 by simp; omega]
    congr 1
    funext x
    simp
theorem RdSt.done {packed : Bool} {z w q : Nat} {s rest : List UInt8} {rs : List (List UInt8)} (h : RdSt packed z w q s rs rest) (hq : rs.length = q) : rowsT packed z w q s = Option.some (rs, rest) := by
  rw [h.2.2, hq, Nat.sub_self, rowsT]; simp
end Go.Proofs.Ytfkkppagbhllgaa

/-
  HOW A REFERENCE FINDS THE PIECES, in plain words. No program in sight.
-/
set_option linter.unusedVariables false
set_option linter.unusedSimpArgs false
namespace Go.Proofs.Ytfkkppagbhllgaa

/-- how far a run is counted -/
structure RunSt (z : Nat) (s : List UInt8) (f r : Nat) : Prop where
  r1 : 1 ≤ r
  r2 : f + r ≤ manyT z s
  r3 : r ≤ 128
  all : ∀ j, j < r → colT z s (f + j) = colT z s f
  yes : 1 < r → sameT z s f = true
  pend : sameT z s f = true → pendT z s f = endT (okT z s true) (limT z s f - (f + r)) (f + r)
theorem RunSt.start {z : Nat} {s : List UInt8} {f : Nat} (h : f < manyT z s) : RunSt z s f 1 where
  r1 := Nat.le_refl _
  r2 := h
  r3 := by omega
  all := fun j hj => by obtain rfl : j = 0 := by omega
                        rfl
  yes := fun h => by omega
  pend := fun h => by unfold pendT; rw [h]
theorem RunSt.step {z : Nat} {s : List UInt8} {f r : Nat} (h : RunSt z s f r) (h1 : f + r < manyT z s) (h2 : r < 128) (h3 : colT z s (f + r) = colT z s f) : RunSt z s f (r + 1) where
  r1 := by omega
  r2 := by omega
  r3 := by omega
  all := fun j hj => by
    rcases Nat.lt_or_ge j r with hj2 | hj2
    · exact h.all j hj2
    · obtain rfl : j = r := by omega
      exact h3
  yes := fun _ => by
    rcases Nat.lt_or_ge 1 r with h5 | h5
    · exact h.yes h5
    · obtain rfl : r = 1 := by have := h.r1; omega
      unfold sameT
      rw [decide_eq_true h1, h3]; simp
  pend := fun hs => by
    rw [h.pend hs]
    refine endT_step (by unfold limT; omega) ?_
    unfold okT sameT
    have h0 := h.r1
    have e : f + r - 1 + 1 = f + r := by omega
    have e2 : f + r - 1 = f + (r - 1) := by omega
    rw [if_pos rfl, e, decide_eq_true h1, h3, e2, h.all (r - 1) (by omega)]; simp
theorem RunSt.stop {z : Nat} {s : List UInt8} {f r : Nat} (h : RunSt z s f r) (h1 : ¬ (f + r < manyT z s ∧ r < 128 ∧ colT z s (f + r) = colT z s f)) :
    (r = 1 → sameT z s f = false) ∧ (1 < r → sameT z s f = true ∧ pendT z s f = f + r) := by
  refine ⟨fun e => ?_, fun h5 => ⟨h.yes h5, ?_⟩⟩
  · subst e
    cases hs : sameT z s f with
    | false => rfl
    | true => exact absurd ⟨sameT_lt hs, by omega, (sameT_eq hs).symm⟩ h1
  · rw [h.pend (h.yes h5)]
    refine endT_off fun hl => ?_
    have hl2 : f + r < manyT z s ∧ r < 128 := by unfold limT at hl; omega
    unfold okT sameT
    have h0 := h.r1
    have e : f + r - 1 + 1 = f + r := by omega
    have e2 : f + r - 1 = f + (r - 1) := by omega
    rw [if_pos rfl, e, e2, h.all (r - 1) (by omega)]
    have : (colT z s f == colT z s (f + r)) = false := by
      rw [beq_eq_false_iff_ne]
      exact fun e => h1 ⟨hl2.1, hl2.2, e.symm⟩
    rw [this, Bool.and_false]
/-- how far what differs is counted -/
structure LitSt (z : Nat) (s : List UInt8) (f r : Nat) : Prop where
  r1 : 1 ≤ r
  r2 : f + r ≤ manyT z s
  r3 : r ≤ 128
  pend : pendT z s f = endT (okT z s false) (limT z s f - (f + r)) (f + r)
theorem LitSt.start {z : Nat} {s : List UInt8} {f : Nat} (h : f < manyT z s) (hs : sameT z s f = false) : LitSt z s f 1 := ⟨Nat.le_refl _, h, by omega, by unfold pendT; rw [hs]⟩
theorem LitSt.step {z : Nat} {s : List UInt8} {f r : Nat} (h : LitSt z s f r) (h1 : f + r < manyT z s) (h2 : r < 128) (h3 : sameT z s (f + r) = false) : LitSt z s f (r + 1) := by
  refine ⟨by omega, by omega, by omega, ?_⟩
  rw [h.pend]
  refine endT_step (by unfold limT; omega) ?_
  unfold okT
  rw [if_neg (by simp), h3]; rfl
theorem LitSt.stop {z : Nat} {s : List UInt8} {f r : Nat} (h : LitSt z s f r) (h1 : ¬ (f + r < manyT z s ∧ r < 128 ∧ sameT z s (f + r) = false)) : pendT z s f = f + r := by
  rw [h.pend]
  refine endT_off fun hl => ?_
  have hl2 : f + r < manyT z s ∧ r < 128 := by unfold limT at hl; omega
  unfold okT
  rw [if_neg (by simp)]
  cases hs : sameT z s (f + r) with
  | true => rfl
  | false => exact absurd ⟨hl2.1, hl2.2, hs⟩ h1
/-- how far the packing stands -/
def PkSt (z : Nat) (s : List UInt8) (f : Nat) (acc : List UInt8) : Prop := f ≤ manyT z s ∧ ∃ k, manyT z s - f ≤ k ∧ acc ++ packFrom z s k f = packT z s
theorem PkSt.start (z : Nat) (s : List UInt8) : PkSt z s 0 [] := ⟨Nat.zero_le _, manyT z s, by omega, rfl⟩
theorem PkSt.step {z : Nat} {s acc : List UInt8} {f : Nat} (h : PkSt z s f acc) (hf : f < manyT z s) : PkSt z s (pendT z s f) (acc ++ pieceB z s (f, pendT z s f, sameT z s f)) := by
  obtain ⟨h1, k, hk, e⟩ := h
  obtain ⟨p1, p2, p3⟩ := pendT_b hf
  cases k with
  | zero => omega
  | succ k =>
    rw [packFrom_cons hf, ← List.append_assoc] at e
    exact ⟨p2, k, by omega, e⟩
theorem PkSt.done {z : Nat} {s acc : List UInt8} {f : Nat} (h : PkSt z s f acc) (hf : ¬ f < manyT z s) : acc = packT z s := by
  obtain ⟨h1, k, hk, e⟩ := h
  rw [packFrom_done hf, List.append_nil] at e
  exact e
theorem PkSt.le {z : Nat} {s acc : List UInt8} {f : Nat} (h : PkSt z s f acc) : acc.length ≤ (packT z s).length := by
  obtain ⟨h1, k, hk, e⟩ := h
  rw [← e, List.length_append]; omega
theorem piece_run {z : Nat} {s : List UInt8} {f r : Nat} (h : sameT z s f = true) (hp : pendT z s f = f + r) (h1 : 1 ≤ r) : pieceB z s (f, pendT z s f, sameT z s f) = UInt8.ofNat (127 + r) :: colT z s f := by
  unfold pieceB
  rw [h, hp]
  dsimp only
  rw [if_pos rfl, show 128 + (f + r - f - 1) = 127 + r by omega]
theorem piece_lit {z : Nat} {s : List UInt8} {f r : Nat} (h : sameT z s f = false) (hp : pendT z s f = f + r) (h1 : 1 ≤ r) : pieceB z s (f, pendT z s f, sameT z s f) = UInt8.ofNat (r - 1) :: spanT z s f r := by
  unfold pieceB
  rw [h, hp]
  dsimp only
  rw [if_neg (by simp), show f + r - f - 1 = r - 1 by omega, show f + r - f = r by omega]
end Go.Proofs.Ytfkkppagbhllgaa

/-
  A PICTURE's ROWS laid one by one in a list of texts, in plain words. No program in sight.
-/
set_option linter.unusedVariables false
set_option linter.unusedSimpArgs false
namespace Go.Proofs.Ytfkkppagbhllgaa

/-- the rows of which some are laid -/
def rowsSt (z q : Nat) (top : Bool) (rs : List (List UInt8)) : List (List UInt8) :=
  if top then rs.map (turnedT z) ++ List.replicate (q - rs.length) [] else List.replicate (q - rs.length) [] ++ rs.reverse.map (turnedT z)
theorem rowsSt_zero (z q : Nat) (top : Bool) : rowsSt z q top [] = List.replicate q [] := by unfold rowsSt; cases top <;> simp
theorem rowsSt_len {z q : Nat} {top : Bool} {rs : List (List UInt8)} (h : rs.length ≤ q) : (rowsSt z q top rs).length = q := by
  unfold rowsSt; cases top <;> simp <;> omega
theorem rowsSt_step {z q : Nat} {top : Bool} {rs : List (List UInt8)} {t : List UInt8} (h : rs.length < q) :
    (rowsSt z q top rs).set (ordT q top rs.length) (turnedT z t) = rowsSt z q top (rs ++ [t]) := by
  unfold rowsSt ordT
  cases top
  · simp only [Bool.false_eq_true, if_false]
    have e : q - rs.length = (q - 1 - rs.length) + 1 := by omega
    have e2 : q - (rs ++ [t]).length = q - 1 - rs.length := by simp; omega
    rw [e, e2, List.replicate_succ', List.append_assoc, List.set_append_right _ _ (by simp)]
    simp
  · simp only [if_true]
    have e : q - rs.length = (q - (rs ++ [t]).length) + 1 := by simp; omega
    rw [e, List.replicate_succ, List.set_append_right _ _ (by simp)]
    simp
theorem rowsSt_done {z q : Nat} {top : Bool} {rs : List (List UInt8)} (h : rs.length = q) : (rowsSt z q top rs).flatten = dataT z top rs := by
  unfold rowsSt dataT
  rw [h, Nat.sub_self]
  cases top <;> simp
theorem rowsSt_mem {z q n : Nat} {top : Bool} {rs : List (List UInt8)} (h : rs.length = q) (hl : ∀ r ∈ rs, r.length = n) : ∀ r ∈ rowsSt z q top rs, r.length = n := by
  intro r hr
  unfold rowsSt at hr
  rw [h, Nat.sub_self] at hr
  cases top
  · simp only [Bool.false_eq_true, if_false, List.replicate_zero, List.nil_append] at hr
    exact turned_rows (z := z) (rs := rs.reverse) (fun r hr => hl r (by simpa using hr)) r hr
  · simp only [if_true, List.replicate_zero, List.append_nil] at hr
    exact turned_rows (z := z) hl r hr
end Go.Proofs.Ytfkkppagbhllgaa
