/-
  ROWS OF COLOURS, PACKED AND UNPACKED, in plain words. No program in sight.
-/
set_option linter.unusedVariables false
set_option linter.unusedSimpArgs false
namespace Go.Proofs.Ytfkkppagbhllgaa

/-- the colour at a place -/
def colT (z : Nat) (s : List UInt8) (i : Nat) : List UInt8 := (s.drop (i * z)).take z
def manyT (z : Nat) (s : List UInt8) : Nat := s.length / z
/-- two that stand behind one another are the same -/
def sameT (z : Nat) (s : List UInt8) (i : Nat) : Bool := decide (i + 1 < manyT z s) && (colT z s i == colT z s (i + 1))
/-- as far as something is so -/
def endT (ok : Nat → Bool) : Nat → Nat → Nat
  | 0, to => to
  | n + 1, to => if ok to then endT ok n (to + 1) else to
def okT (z : Nat) (s : List UInt8) (run : Bool) (to : Nat) : Bool := if run then sameT z s (to - 1) else !sameT z s to
def limT (z : Nat) (s : List UInt8) (f : Nat) : Nat := min (manyT z s) (f + 128)
/-- where the piece that begins at f ends -/
def pendT (z : Nat) (s : List UInt8) (f : Nat) : Nat := endT (okT z s (sameT z s f)) (limT z s f - (f + 1)) (f + 1)
def piecesT (z : Nat) (s : List UInt8) : Nat → Nat → List (Nat × Nat × Bool)
  | 0, _ => []
  | n + 1, f => if f < manyT z s then (f, pendT z s f, sameT z s f) :: piecesT z s n (pendT z s f) else []
/-- a stretch of colours -/
def spanT (z : Nat) (s : List UInt8) (f n : Nat) : List UInt8 := (s.drop (f * z)).take (n * z)
/-- a piece's bytes -/
def pieceB (z : Nat) (s : List UInt8) (p : Nat × Nat × Bool) : List UInt8 :=
  if p.2.2 then UInt8.ofNat (128 + (p.2.1 - p.1 - 1)) :: colT z s p.1 else UInt8.ofNat (p.2.1 - p.1 - 1) :: spanT z s p.1 (p.2.1 - p.1)
def packFrom (z : Nat) (s : List UInt8) (n f : Nat) : List UInt8 := (piecesT z s n f).flatMap (pieceB z s)
def packT (z : Nat) (s : List UInt8) : List UInt8 := packFrom z s (manyT z s) 0

/-- colours unpacked: these, and what is left -/
def unpackT (z need : Nat) (s : List UInt8) : Option (List UInt8 × List UInt8) :=
  if _h : need = 0 then some ([], s) else
  match s with
  | [] => none
  | c :: t =>
    if _h2 : need < c.toNat % 128 + 1 then none
    else if 128 ≤ c.toNat then
      if t.length < z then none
      else (unpackT z (need - (c.toNat % 128 + 1)) (t.drop z)).map fun o => ((List.replicate (c.toNat % 128 + 1) (t.take z)).flatten ++ o.1, o.2)
    else if t.length < (c.toNat % 128 + 1) * z then none
    else (unpackT z (need - (c.toNat % 128 + 1)) (t.drop ((c.toNat % 128 + 1) * z))).map fun o => (t.take ((c.toNat % 128 + 1) * z) ++ o.1, o.2)
termination_by need
decreasing_by all_goals omega

theorem unpackT_zero (z : Nat) (s : List UInt8) : unpackT z 0 s = some ([], s) := by rw [unpackT.eq_def]; simp
theorem unpackT_nil {z need : Nat} (h : need ≠ 0) : unpackT z need [] = none := by rw [unpackT.eq_def]; simp [h]
theorem unpackT_cons (z need : Nat) (c : UInt8) (t : List UInt8) (h : need ≠ 0) : unpackT z need (c :: t) =
    if need < c.toNat % 128 + 1 then none
    else if 128 ≤ c.toNat then
      if t.length < z then none
      else (unpackT z (need - (c.toNat % 128 + 1)) (t.drop z)).map fun o => ((List.replicate (c.toNat % 128 + 1) (t.take z)).flatten ++ o.1, o.2)
    else if t.length < (c.toNat % 128 + 1) * z then none
    else (unpackT z (need - (c.toNat % 128 + 1)) (t.drop ((c.toNat % 128 + 1) * z))).map fun o => (t.take ((c.toNat % 128 + 1) * z) ++ o.1, o.2) := by
  rw [unpackT.eq_def]; simp [h]

theorem endT_le (ok : Nat → Bool) : ∀ n to, to ≤ endT ok n to ∧ endT ok n to ≤ to + n
  | 0, to => by simp [endT]
  | n + 1, to => by
    have := endT_le ok n (to + 1)
    unfold endT; split <;> omega
theorem endT_all (ok : Nat → Bool) : ∀ n to j, to ≤ j → j < endT ok n to → ok j = true
  | 0, to, j, h1, h2 => by simp [endT] at h2; omega
  | n + 1, to, j, h1, h2 => by
    unfold endT at h2
    split at h2
    · rename_i h
      rcases Nat.lt_or_ge to j with h3 | h3
      · exact endT_all ok n (to + 1) j h3 h2
      · have : j = to := by omega
        rw [this]; exact h
    · omega
theorem endT_stop (ok : Nat → Bool) : ∀ n to, endT ok n to < to + n → ok (endT ok n to) = false
  | 0, to, h => by simp [endT] at h
  | n + 1, to, h => by
    unfold endT at h ⊢
    split at h
    · rename_i h1
      rw [if_pos h1]
      exact endT_stop ok n (to + 1) (by omega)
    · rename_i h1
      rw [if_neg h1]; simpa using h1
theorem endT_step {ok : Nat → Bool} {lim to : Nat} (h : to < lim) (hok : ok to = true) : endT ok (lim - to) to = endT ok (lim - (to + 1)) (to + 1) := by
  have : lim - to = (lim - (to + 1)) + 1 := by omega
  rw [this, endT, if_pos hok]
theorem endT_off {ok : Nat → Bool} {lim to : Nat} (h : to < lim → ok to = false) : endT ok (lim - to) to = to := by
  rcases Nat.lt_or_ge to lim with h1 | h1
  · have : lim - to = (lim - (to + 1)) + 1 := by omega
    rw [this, endT, if_neg (by rw [h h1]; simp)]
  · have : lim - to = 0 := by omega
    rw [this, endT]

theorem sameT_lt {z : Nat} {s : List UInt8} {i : Nat} (h : sameT z s i = true) : i + 1 < manyT z s := by unfold sameT at h; simp at h; exact h.1
theorem sameT_eq {z : Nat} {s : List UInt8} {i : Nat} (h : sameT z s i = true) : colT z s i = colT z s (i + 1) := by unfold sameT at h; simp at h; exact h.2
theorem pendT_b {z : Nat} {s : List UInt8} {f : Nat} (h : f < manyT z s) : f + 1 ≤ pendT z s f ∧ pendT z s f ≤ manyT z s ∧ pendT z s f ≤ f + 128 := by
  have := endT_le (okT z s (sameT z s f)) (limT z s f - (f + 1)) (f + 1)
  unfold pendT
  have hl : limT z s f ≤ manyT z s ∧ limT z s f ≤ f + 128 ∧ f + 1 ≤ limT z s f := by unfold limT; omega
  omega
theorem pendT_run {z : Nat} {s : List UInt8} {f : Nat} (h : sameT z s f = true) : f + 2 ≤ pendT z s f := by
  have h1 := sameT_lt h
  have h2 : f + 1 < limT z s f := by unfold limT; omega
  unfold pendT
  rw [endT_step h2 (by unfold okT; rw [h]; simpa using h)]
  exact (endT_le _ _ _).1
theorem run_same {z : Nat} {s : List UInt8} {f : Nat} (h : sameT z s f = true) : ∀ j, f + j < pendT z s f → colT z s (f + j) = colT z s f
  | 0, _ => rfl
  | j + 1, hj => by
    have ih := run_same h j (by omega)
    have h2 := endT_all (okT z s (sameT z s f)) (limT z s f - (f + 1)) (f + 1) (f + (j + 1)) (by omega) hj
    unfold okT at h2
    rw [h] at h2
    simp only [if_true, Nat.add_succ_sub_one] at h2
    have h3 := sameT_eq h2
    rw [← ih, h3]; rfl
theorem lit_stop {z : Nat} {s : List UInt8} {f : Nat} (hf : f < manyT z s) (h : sameT z s f = false) (h1 : pendT z s f < manyT z s) (h2 : pendT z s f < f + 128) : sameT z s (pendT z s f) = true := by
  have h3 := endT_stop (okT z s (sameT z s f)) (limT z s f - (f + 1)) (f + 1) (by
    have : f + 1 ≤ limT z s f := by unfold limT; omega
    have h4 : pendT z s f < limT z s f := by unfold limT; omega
    unfold pendT at h4; omega)
  change okT z s (sameT z s f) (pendT z s f) = false at h3
  unfold okT at h3
  rw [h] at h3
  simpa using h3

theorem spanT_add (z : Nat) (s : List UInt8) (f m n : Nat) : spanT z s f (m + n) = spanT z s f m ++ spanT z s (f + m) n := by
  unfold spanT
  rw [show (m + n) * z = m * z + n * z from Nat.add_mul _ _ _, List.take_add, List.drop_drop, show f * z + m * z = (f + m) * z from (Nat.add_mul _ _ _).symm]
theorem spanT_one (z : Nat) (s : List UInt8) (f : Nat) : spanT z s f 1 = colT z s f := by unfold spanT colT; rw [Nat.one_mul]
theorem spanT_same {z : Nat} {s c : List UInt8} {f : Nat} : ∀ n, (∀ j, j < n → colT z s (f + j) = c) → spanT z s f n = (List.replicate n c).flatten
  | 0, _ => by simp [spanT]
  | n + 1, h => by
    rw [spanT_add, spanT_same n (fun j hj => h j (by omega)), spanT_one, h n (by omega), List.replicate_succ']
    simp
theorem spanT_len {z : Nat} {s : List UInt8} {f n : Nat} (hl : s.length = manyT z s * z) (h : f + n ≤ manyT z s) : (spanT z s f n).length = n * z := by
  unfold spanT
  have : f * z + n * z ≤ manyT z s * z := by rw [← Nat.add_mul]; exact Nat.mul_le_mul_right _ h
  rw [List.length_take, List.length_drop, hl]; omega
theorem u8_of (n : Nat) (h : n < 256) : (UInt8.ofNat n).toNat = n := by
  rw [UInt8.toNat_ofNat']; exact Nat.mod_eq_of_lt h

/-- one piece unpacked -/
theorem unpack_piece {z : Nat} {s : List UInt8} {f b : Nat} (hz : 0 < z) (hl : s.length = manyT z s * z) (hf : f < manyT z s) (r : List UInt8) (hb : pendT z s f - f ≤ b) :
    unpackT z b (pieceB z s (f, pendT z s f, sameT z s f) ++ r) = (unpackT z (b - (pendT z s f - f)) r).map fun o => (spanT z s f (pendT z s f - f) ++ o.1, o.2) := by
  obtain ⟨h1, h2, h3⟩ := pendT_b hf
  unfold pieceB
  dsimp only
  cases hs : sameT z s f with
  | true =>
    have hc : (colT z s f).length = z := by rw [← spanT_one, spanT_len hl (by omega), Nat.one_mul]
    have e1 : (UInt8.ofNat (128 + (pendT z s f - f - 1))).toNat % 128 + 1 = pendT z s f - f := by rw [u8_of _ (by omega)]; omega
    rw [if_pos rfl, List.cons_append, unpackT_cons _ _ _ _ (by omega), e1, if_neg (by omega), if_pos (by rw [u8_of _ (by omega)]; omega), if_neg (by rw [List.length_append]; omega)]
    rw [List.drop_append_of_le_length (by omega), List.drop_of_length_le (by omega), List.nil_append, List.take_append_of_le_length (by omega), List.take_of_length_le (by omega)]
    rw [spanT_same (c := colT z s f) (pendT z s f - f) (fun j hj => run_same hs j (by omega))]
  | false =>
    have hc : (spanT z s f (pendT z s f - f)).length = (pendT z s f - f) * z := spanT_len hl (by omega)
    have e1 : (UInt8.ofNat (pendT z s f - f - 1)).toNat % 128 + 1 = pendT z s f - f := by rw [u8_of _ (by omega)]; omega
    rw [if_neg (by simp), List.cons_append, unpackT_cons _ _ _ _ (by omega), e1, if_neg (by omega), if_neg (by rw [u8_of _ (by omega)]; omega), if_neg (by rw [List.length_append]; omega)]
    rw [List.drop_append_of_le_length (by omega), List.drop_of_length_le (by omega), List.nil_append, List.take_append_of_le_length (by omega), List.take_of_length_le (by omega)]

theorem packFrom_cons {z : Nat} {s : List UInt8} {n f : Nat} (hf : f < manyT z s) : packFrom z s (n + 1) f = pieceB z s (f, pendT z s f, sameT z s f) ++ packFrom z s n (pendT z s f) := by
  unfold packFrom; rw [piecesT, if_pos hf]; simp
theorem packFrom_done {z : Nat} {s : List UInt8} {n f : Nat} (hf : ¬ f < manyT z s) : packFrom z s n f = [] := by
  unfold packFrom
  cases n with
  | zero => rfl
  | succ n => rw [piecesT, if_neg hf]; rfl
/-- what is packed is unpacked; what stands behind goes on -/
theorem unpack_from {z : Nat} {s : List UInt8} (hz : 0 < z) (hl : s.length = manyT z s * z) : ∀ (n f b : Nat) (r : List UInt8), f ≤ manyT z s → manyT z s - f ≤ n →
    unpackT z (manyT z s - f + b) (packFrom z s n f ++ r) = (unpackT z b r).map fun o => (s.drop (f * z) ++ o.1, o.2)
  | n, f, b, r, hf, hn => by
    rcases Nat.lt_or_ge f (manyT z s) with h | h
    · cases n with
      | zero => omega
      | succ n =>
        obtain ⟨h1, h2, h3⟩ := pendT_b h
        rw [packFrom_cons h, List.append_assoc, unpack_piece hz hl h _ (by omega), show manyT z s - f + b - (pendT z s f - f) = manyT z s - pendT z s f + b by omega,
          unpack_from hz hl n (pendT z s f) b r h2 (by omega), Option.map_map]
        congr 1
        funext o
        simp only [Function.comp]
        have : s.drop (f * z) = spanT z s f (pendT z s f - f) ++ s.drop (pendT z s f * z) := by
          unfold spanT
          have e : pendT z s f * z = f * z + (pendT z s f - f) * z := by rw [← Nat.add_mul]; congr 1; omega
          rw [e, ← List.drop_drop, List.take_append_drop]
        rw [this, List.append_assoc]
    · have e : f = manyT z s := by omega
      subst e
      rw [packFrom_done (by omega), List.nil_append, Nat.sub_self, Nat.zero_add]
      have : s.drop (manyT z s * z) = [] := List.drop_of_length_le (by omega)
      rw [this]
      simp
theorem unpack_pack {z : Nat} {s : List UInt8} (hz : 0 < z) (hl : s.length = manyT z s * z) (b : Nat) (r : List UInt8) :
    unpackT z (manyT z s + b) (packT z s ++ r) = (unpackT z b r).map fun o => (s ++ o.1, o.2) := by
  have := unpack_from hz hl (manyT z s) 0 b r (Nat.zero_le _) (by omega)
  simpa [packT] using this

/-- how long the packed are -/
theorem pack_from_len {z : Nat} {s : List UInt8} (hz : 3 ≤ z) (hl : s.length = manyT z s * z) : ∀ (n f : Nat), f ≤ manyT z s →
    (packFrom z s n f).length ≤ (manyT z s - f) * z + (manyT z s - f) / 128 + (if sameT z s f then 0 else 1)
  | n, f, hf => by
    rcases Nat.lt_or_ge f (manyT z s) with h | h
    · cases n with
      | zero => simp [packFrom, piecesT]
      | succ n =>
        obtain ⟨h1, h2, h3⟩ := pendT_b h
        have ih := pack_from_len hz hl n (pendT z s f) h2
        rw [packFrom_cons h, List.length_append]
        have e1 : (manyT z s - f) * z = (manyT z s - pendT z s f) * z + (pendT z s f - f) * z := by rw [← Nat.add_mul]; congr 1; omega
        unfold pieceB
        dsimp only
        cases hs : sameT z s f with
        | true =>
          have hc : (colT z s f).length = z := by rw [← spanT_one, spanT_len hl (by omega), Nat.one_mul]
          have h4 := pendT_run hs
          have h5 : 2 * z ≤ (pendT z s f - f) * z := Nat.mul_le_mul_right _ (by omega)
          have h6 : (manyT z s - pendT z s f) / 128 ≤ (manyT z s - f) / 128 := Nat.div_le_div_right (by omega)
          rw [if_pos rfl, if_pos rfl, List.length_cons, hc]
          have h7 : (if sameT z s (pendT z s f) = true then 0 else 1) ≤ 1 := by split <;> omega
          omega
        | false =>
          have hc : (spanT z s f (pendT z s f - f)).length = (pendT z s f - f) * z := spanT_len hl (by omega)
          rw [if_neg (by simp), if_neg (by simp), List.length_cons, hc]
          rcases Nat.lt_or_ge (pendT z s f) (manyT z s) with g1 | g1
          · rcases Nat.lt_or_ge (pendT z s f) (f + 128) with g2 | g2
            · rw [lit_stop h hs g1 g2] at ih
              simp only [if_true] at ih
              have h6 : (manyT z s - pendT z s f) / 128 ≤ (manyT z s - f) / 128 := Nat.div_le_div_right (by omega)
              omega
            · have h7 : (if sameT z s (pendT z s f) = true then 0 else 1) ≤ 1 := by split <;> omega
              omega
          · rw [packFrom_done (by omega)]
            simp only [List.length_nil]
            have : (manyT z s - pendT z s f) * z = 0 := by rw [show manyT z s - pendT z s f = 0 by omega, Nat.zero_mul]
            omega
    · rw [packFrom_done (by omega)]; simp
theorem pack_len {z : Nat} {s : List UInt8} (hz : 3 ≤ z) (hl : s.length = manyT z s * z) : (packT z s).length ≤ s.length + manyT z s / 128 + 1 := by
  have := pack_from_len hz hl (manyT z s) 0 (Nat.zero_le _)
  rw [Nat.sub_zero, ← hl] at this
  have h7 : (if sameT z s 0 = true then 0 else 1) ≤ 1 := by split <;> omega
  unfold packT; omega
end Go.Proofs.Ytfkkppagbhllgaa
