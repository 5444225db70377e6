/-
  THE PLAIN LAWS OF SHELF PACKING: what is packed lies inside, no two share a texel, each stands on the ground or on one ahead. No program in sight.
-/
import Derived.Test.YtneoacbacflehaaShelfSpec
set_option linter.unusedVariables false
set_option linter.unusedSimpArgs false
namespace Go.Proofs.Ytneoacbacflehaa

theorem seg_get {sky : List Int} {a n c : Nat} {v : Int} (h1 : a ≤ c) (h2 : c < a + n) (hv : sky[c]? = some v) : v ∈ (sky.drop a).take n := by
  refine List.mem_of_getElem? (i := c - a) ?_
  rw [List.getElem?_take, if_pos (by omega), List.getElem?_drop, show a + (c - a) = c by omega]
  exact hv
theorem hgt_ge {sky : List Int} {a n c : Nat} {v : Int} (h1 : a ≤ c) (h2 : c < a + n) (hv : sky[c]? = some v) : v ≤ hgt sky a n := le_maxL (seg_get h1 h2 hv)
theorem hgt_at {sky : List Int} {a n : Nat} (hn : 0 < n) (hk : a + n ≤ sky.length) : ∃ c, a ≤ c ∧ c < a + n ∧ sky[c]? = some (hgt sky a n) := by
  have h : (sky.drop a).take n ≠ [] := fun e => by
    have := congrArg List.length e
    simp only [List.length_take, List.length_drop, List.length_nil] at this; omega
  have hm : hgt sky a n ∈ (sky.drop a).take n := maxL_mem h
  obtain ⟨i, hi, he⟩ := List.getElem_of_mem hm
  have h2 : ((sky.drop a).take n)[i]? = some (hgt sky a n) := by rw [List.getElem?_eq_getElem hi, he]
  rw [List.getElem?_take] at h2
  split at h2
  · rename_i hlt
    rw [List.getElem?_drop] at h2
    exact ⟨a + i, by omega, by omega, h2⟩
  · cases h2

/-- what the search has found -/
theorem findTo_found (sky : List Int) (n : Nat) (h most : Int) (k : Nat) :
    ((findTo sky n h most k).2.2 = true → ∃ x : Nat, x < k ∧ (findTo sky n h most k).1 = x ∧ (findTo sky n h most k).2.1 = hgt sky x n ∧ hgt sky x n + h ≤ most ∧
        (∀ j, j < k → hgt sky j n + h ≤ most → hgt sky x n ≤ hgt sky j n) ∧ (∀ j, j < x → hgt sky j n + h ≤ most → hgt sky x n < hgt sky j n)) ∧
      ((findTo sky n h most k).2.2 = false → (findTo sky n h most k) = (0, 0, false) ∧ ∀ j, j < k → ¬ hgt sky j n + h ≤ most) := by
  induction k with
  | zero => exact ⟨fun hf => by simp [findTo] at hf, fun _ => ⟨rfl, fun j hj => by omega⟩⟩
  | succ k ih =>
    obtain ⟨ih1, ih2⟩ := ih
    simp only [findTo]
    split
    · rename_i hc
      refine ⟨fun _ => ⟨k, by omega, rfl, rfl, hc.1, fun j hj hm => ?_, fun j hj hm => ?_⟩, fun hf => by simp at hf⟩
      · rcases Nat.lt_or_ge j k with hjk | hjk
        · rcases hc.2 with hf | hlow
          · exact absurd hm ((ih2 hf).2 j hjk)
          · cases hfb : (findTo sky n h most k).2.2 with
            | false => exact absurd hm ((ih2 hfb).2 j hjk)
            | true =>
              obtain ⟨x, _, _, hy, _, hmin, _⟩ := ih1 hfb
              have := hmin j hjk hm
              rw [hy] at hlow; omega
        · rw [show j = k by omega]; omega
      · rcases hc.2 with hf | hlow
        · exact absurd hm ((ih2 hf).2 j hj)
        · cases hfb : (findTo sky n h most k).2.2 with
          | false => exact absurd hm ((ih2 hfb).2 j hj)
          | true =>
            obtain ⟨x, _, _, hy, _, hmin, _⟩ := ih1 hfb
            have := hmin j hj hm
            rw [hy] at hlow; omega
    · rename_i hc
      refine ⟨fun hf => ?_, fun hf => ?_⟩
      · obtain ⟨x, hx, h1, h2, h3, h4, h5⟩ := ih1 hf
        refine ⟨x, by omega, h1, h2, h3, fun j hj hm => ?_, h5⟩
        rcases Nat.lt_or_ge j k with hjk | hjk
        · exact h4 j hjk hm
        · obtain rfl : j = k := by omega
          rw [h2, hf] at hc
          simp only [not_and, not_or, Int.not_lt] at hc
          exact (hc hm).2
      · obtain ⟨h1, h2⟩ := ih2 hf
        refine ⟨h1, fun j hj hm => ?_⟩
        rcases Nat.lt_or_ge j k with hjk | hjk
        · exact h2 j hjk hm
        · obtain rfl : j = k := by omega
          exact hc ⟨hm, .inl hf⟩

theorem findS_found {sky : List Int} {w h most a b : Int} (hw : 1 ≤ w) (hf : findS sky w h most = (a, b, true)) :
    ∃ x : Nat, a = x ∧ x + w.toNat ≤ sky.length ∧ b = hgt sky x w.toNat ∧ b + h ≤ most := by
  unfold findS at hf
  obtain ⟨h1, _⟩ := findTo_found sky w.toNat h most (sky.length + 1 - w.toNat)
  rw [hf] at h1
  obtain ⟨x, hx, ha, hb, hm, _⟩ := h1 rfl
  simp only at ha hb
  exact ⟨x, ha, by omega, hb, by omega⟩

/-- no texel is shared -/
def Dis (a b : Rc) : Prop := ¬ (a.x < b.x + b.w ∧ b.x < a.x + a.w ∧ a.y < b.y + b.h ∧ b.y < a.y + a.h)

structure Inv (W : Nat) (h : Int) (sky : List Int) (out : List Rc) : Prop where
  len : sky.length = W
  rng : ∀ x ∈ sky, 0 ≤ x ∧ x ≤ h
  ins : ∀ o ∈ out, 1 ≤ o.w ∧ 1 ≤ o.h ∧ 0 ≤ o.x ∧ 0 ≤ o.y ∧ o.x + o.w ≤ W ∧ o.y + o.h ≤ h
  cov : ∀ o ∈ out, ∀ c : Nat, o.x ≤ c → (c : Int) < o.x + o.w → ∀ v, sky[c]? = some v → o.y + o.h ≤ v
  frm : ∀ (c : Nat) (v : Int), sky[c]? = some v → v = 0 ∨ ∃ (k : Nat) (o : Rc), out[k]? = some o ∧ o.y + o.h = v ∧ o.x ≤ c ∧ (c : Int) < o.x + o.w
  apart : ∀ (i k : Nat) (a b : Rc), k < i → out[k]? = some a → out[i]? = some b → Dis a b
  stand : ∀ (i : Nat) (b : Rc), out[i]? = some b → b.y = 0 ∨ ∃ (k : Nat) (a : Rc), k < i ∧ out[k]? = some a ∧ a.y + a.h = b.y ∧ a.x < b.x + b.w ∧ b.x < a.x + a.w

theorem Inv.start (W : Nat) (h : Int) (hh : 0 ≤ h) : Inv W h (List.replicate W 0) [] where
  len := by simp
  rng := fun x hx => by rw [List.eq_of_mem_replicate hx]; omega
  ins := fun o ho => by simp at ho
  cov := fun o ho => by simp at ho
  frm := fun c v hv => by
    left
    exact List.eq_of_mem_replicate (List.mem_of_getElem? hv)
  apart := fun i k a b _ ha => by simp at ha
  stand := fun i b hb => by simp at hb

theorem snoc_get {α : Type} {l : List α} {x y : α} {i : Nat} (h : (l ++ [x])[i]? = some y) : (i < l.length ∧ l[i]? = some y) ∨ (i = l.length ∧ x = y) := by
  rcases Nat.lt_or_ge i l.length with hi | hi
  · rw [List.getElem?_append_left hi] at h; exact .inl ⟨hi, h⟩
  · rw [List.getElem?_append_right hi] at h
    have : i - l.length = 0 := by
      rcases Nat.eq_zero_or_pos (i - l.length) with h0 | h0
      · exact h0
      · rw [List.getElem?_eq_none (by simp; omega)] at h; cases h
    rw [this] at h
    exact .inr ⟨by omega, by simpa using h⟩

theorem Inv.step {W : Nat} {h : Int} {sky : List Int} {out : List Rc} (I : Inv W h sky out) {s : Pt} (hs : sizeOk s = true) {a b : Int} (hf : findS sky s.x s.y h = (a, b, true)) :
    Inv W h (riseTo sky a.toNat (b + s.y) s.x.toNat) (out ++ [⟨a, b, s.x, s.y⟩]) := by
  obtain ⟨sx, sy⟩ := s
  simp only [sizeOk, Bool.and_eq_true, texel_iff] at hs
  obtain ⟨⟨s1, s2⟩, ⟨s3, s4⟩⟩ := hs
  obtain ⟨x, rfl, hx, rfl, hm⟩ := findS_found s1 hf
  simp only at hx hm ⊢
  rw [Int.toNat_natCast]
  have hl := I.len
  obtain ⟨c0, hc1, hc2, hc3⟩ := hgt_at (sky := sky) (a := x) (n := sx.toNat) (by omega) hx
  have hb := I.rng _ (List.mem_of_getElem? hc3)
  have hget : ∀ (c : Nat) (v : Int), (riseTo sky x (hgt sky x sx.toNat + sy) sx.toNat)[c]? = some v → (x ≤ c ∧ c < x + sx.toNat ∧ v = hgt sky x sx.toNat + sy) ∨ (¬ (x ≤ c ∧ c < x + sx.toNat) ∧ sky[c]? = some v) := by
    intro c v hv
    have hc : c < sky.length := by
      have := (List.getElem?_eq_some_iff.1 hv).1
      rwa [riseTo_length] at this
    rw [riseTo_get _ _ _ _ _ hc] at hv
    split at hv
    · rename_i h; exact .inl ⟨h.1, h.2, (Option.some.inj hv).symm⟩
    · rename_i h; exact .inr ⟨h, hv⟩
  have hold : ∀ (o : Rc), o ∈ out → (o.x : Int) < x + sx → (x : Int) < o.x + o.w → o.y + o.h ≤ hgt sky x sx.toNat := by
    intro o ho h1 h2
    have hi := I.ins o ho
    -- a column of both
    obtain ⟨c, hca, hcb, hcc, hcd⟩ : ∃ c : Nat, x ≤ c ∧ c < x + sx.toNat ∧ o.x ≤ c ∧ (c : Int) < o.x + o.w := by
      by_cases hxo : o.x ≤ x
      · exact ⟨x, by omega, by omega, hxo, h2⟩
      · exact ⟨o.x.toNat, by omega, by omega, by omega, by omega⟩
    have hg : sky[c]? = some (sky[c]'(by omega)) := List.getElem?_eq_getElem (by omega)
    have h3 := I.cov o ho c hcc hcd _ hg
    have h4 := hgt_ge hca hcb hg
    omega
  refine ⟨by rw [riseTo_length, hl], fun y hy => ?_, fun o ho => ?_, fun o ho c hc1 hc2 v hv => ?_, fun c v hv => ?_, fun i k p q hki hp hq => ?_, fun i p hp => ?_⟩
  · rcases mem_riseTo hy with rfl | hy
    · omega
    · exact I.rng y hy
  · rcases List.mem_append.1 ho with ho | ho
    · exact I.ins o ho
    · simp only [List.mem_singleton] at ho
      subst ho
      simp only
      omega
  · rcases List.mem_append.1 ho with ho | ho
    · rcases hget c v hv with ⟨h1, h2, rfl⟩ | ⟨_, h2⟩
      · have := hold o ho (by omega) (by omega); omega
      · exact I.cov o ho c hc1 hc2 v h2
    · simp only [List.mem_singleton] at ho
      subst ho
      simp only at hc1 hc2 ⊢
      rcases hget c v hv with ⟨h1, h2, rfl⟩ | ⟨h1, _⟩
      · omega
      · exact absurd ⟨by omega, by omega⟩ h1
  · rcases hget c v hv with ⟨h1, h2, rfl⟩ | ⟨_, h2⟩
    · refine .inr ⟨out.length, ⟨x, hgt sky x sx.toNat, sx, sy⟩, by simp, rfl, ?_, ?_⟩ <;> simp only <;> omega
    · rcases I.frm c v h2 with h0 | ⟨k, o, ho, r⟩
      · exact .inl h0
      · exact .inr ⟨k, o, by rw [List.getElem?_append_left ((List.getElem?_eq_some_iff.1 ho).1)]; exact ho, r⟩
  · rcases snoc_get hq with ⟨hi, hq⟩ | ⟨hi, rfl⟩
    · have hk : k < out.length := by omega
      rw [List.getElem?_append_left hk] at hp
      exact I.apart i k p q hki hp hq
    · have hk : k < out.length := by omega
      rw [List.getElem?_append_left hk] at hp
      rintro ⟨h1, h2, h3, h4⟩
      simp only at h1 h2 h3 h4
      have := hold p (List.mem_of_getElem? hp) h1 h2
      omega
  · rcases snoc_get hp with ⟨hi, hp⟩ | ⟨hi, rfl⟩
    · rcases I.stand i p hp with h0 | ⟨k, q, hk, hq, r⟩
      · exact .inl h0
      · exact .inr ⟨k, q, hk, by rw [List.getElem?_append_left (by omega)]; exact hq, r⟩
    · simp only
      rcases I.frm c0 _ hc3 with h0 | ⟨k, o, ho, h1, h2, h3⟩
      · exact .inl h0
      · have hk := (List.getElem?_eq_some_iff.1 ho).1
        exact .inr ⟨k, o, by omega, by rw [List.getElem?_append_left hk]; exact ho, h1, by omega, by omega⟩

/-- the whole run -/
theorem packGo_inv {W : Nat} {h : Int} (ps : List Pt) (hs : ∀ p ∈ ps, sizeOk p = true) : ∀ (sky : List Int) (out l : List Rc), Inv W h sky out → packGo h ps sky out = some l →
    (∃ sky', Inv W h sky' l) ∧ l.length = out.length + ps.length ∧ (∀ (i : Nat) (r : Rc), out[i]? = some r → l[i]? = some r) ∧
      (∀ (i : Nat) (p : Pt), ps[i]? = some p → ∃ r, l[out.length + i]? = some r ∧ r.w = p.x ∧ r.h = p.y) := by
  induction ps with
  | nil =>
    intro sky out l I hg
    simp only [packGo, Option.some.injEq] at hg
    subst hg
    exact ⟨⟨sky, I⟩, by simp, fun _ _ h => h, fun i p hp => by simp at hp⟩
  | cons s ps ih =>
    intro sky out l I hg
    obtain ⟨⟨a, b, f⟩, hst⟩ : ∃ t, findS sky s.x s.y h = t := ⟨_, rfl⟩
    rw [packGo_cons h s ps sky out hst] at hg
    cases f with
    | false => simp at hg
    | true =>
      rw [if_pos rfl] at hg
      obtain ⟨h1, h2, h3, h4⟩ := ih (fun p hp => hs p (by simp [hp])) _ _ l (I.step (hs s (by simp)) hst) hg
      have hnew : l[out.length]? = some ⟨a, b, s.x, s.y⟩ := h3 _ _ (by simp)
      refine ⟨h1, by rw [h2]; simp; omega, fun i r hr => h3 i r (by rw [List.getElem?_append_left ((List.getElem?_eq_some_iff.1 hr).1)]; exact hr), fun i p hp => ?_⟩
      cases i with
      | zero =>
        simp only [List.getElem?_cons_zero, Option.some.injEq] at hp
        subst hp
        exact ⟨_, hnew, rfl, rfl⟩
      | succ i =>
        simp only [List.getElem?_cons_succ] at hp
        obtain ⟨r, hr, e⟩ := h4 i p hp
        refine ⟨r, ?_, e⟩
        rw [← hr]; simp; congr 1; omega

theorem packOk_parts {w h : Int} {ps : List Pt} (e : packOk w h ps = true) : (1 ≤ w ∧ w ≤ 256) ∧ (1 ≤ h ∧ h ≤ 256) ∧ ∀ p ∈ ps, sizeOk p = true := by
  simp only [packOk, Bool.and_eq_true, texel_iff, List.all_eq_true] at e
  exact ⟨e.1.1, e.1.2, e.2⟩

/-- WHAT Pack ANSWERS: an error and nothing; or rectangles that are right. -/
theorem packS_cases (w h : Int) (ps : List Pt) : (packS w h ps = ([], 1) ∧ packOk w h ps = false) ∨ (packS w h ps = ([], 9) ∧ packOk w h ps = true) ∨
    ∃ l sky, packS w h ps = (l, 0) ∧ packOk w h ps = true ∧ packGo h ps (List.replicate w.toNat 0) [] = some l ∧ Inv w.toNat h sky l ∧ l.length = ps.length ∧
      ∀ (i : Nat) (p : Pt), ps[i]? = some p → ∃ r, l[i]? = some r ∧ r.w = p.x ∧ r.h = p.y := by
  cases e : packOk w h ps with
  | false => exact .inl ⟨packS_no e, rfl⟩
  | true =>
    cases g : packGo h ps (List.replicate w.toNat 0) [] with
    | none => exact .inr (.inl ⟨packS_full e g, rfl⟩)
    | some l =>
      obtain ⟨h1, h2, h3⟩ := packOk_parts e
      obtain ⟨⟨sky, I⟩, h4, _, h5⟩ := packGo_inv ps h3 _ [] l (Inv.start w.toNat h (by omega)) g
      exact .inr (.inr ⟨l, sky, packS_yes e g, rfl, rfl, I, by simpa using h4, fun i p hp => by simpa using h5 i p hp⟩)

/-- rectangles that are right: so says Is -/
theorem Inv.is {W : Nat} {h : Int} {sky : List Int} {l : List Rc} (I : Inv W h sky l) {w : Int} (hw : w = W) : isS w h l = true := by
  subst hw
  have key : ∀ k, isTo W h l k = true := by
    intro k
    induction k with
    | zero => rfl
    | succ k ih =>
      simp only [isTo, ih, Bool.true_and]
      cases hk : l[k]? with
      | none => rfl
      | some r =>
        have hi := I.ins r (List.mem_of_getElem? hk)
        simp only [Bool.and_eq_true, insideS_iff, List.all_eq_true]
        refine ⟨by omega, fun o ho => ?_⟩
        obtain ⟨j, hj, he⟩ := List.getElem_of_mem ho
        have hjk : j < k := by simp only [List.length_take] at hj; omega
        have ho' : l[j]? = some o := by
          have h2 : (l.take k)[j]? = some o := by rw [List.getElem?_eq_getElem hj, he]
          rwa [List.getElem?_take, if_pos hjk] at h2
        have hd := I.apart k j o r hjk ho' hk
        have hio := I.ins o (List.mem_of_getElem? ho')
        simp only [apartS, freeS, Bool.or_eq_true, decide_eq_true_eq]
        unfold Dis at hd
        omega
  exact key _

/-- the first ones are packed as they would be alone -/
theorem packGo_take (h : Int) (ps : List Pt) : ∀ (m : Nat) (sky : List Int) (out l : List Rc), packGo h ps sky out = some l → m ≤ ps.length → packGo h (ps.take m) sky out = some (l.take (out.length + m)) := by
  induction ps with
  | nil =>
    intro m sky out l hg hm
    simp only [packGo, Option.some.injEq] at hg
    subst hg
    obtain rfl : m = 0 := by simpa using hm
    simp [packGo]
  | cons s ps ih =>
    intro m sky out l hg hm
    obtain ⟨⟨a, b, f⟩, hst⟩ : ∃ t, findS sky s.x s.y h = t := ⟨_, rfl⟩
    rw [packGo_cons h s ps sky out hst] at hg
    cases f with
    | false => simp at hg
    | true =>
      rw [if_pos rfl] at hg
      cases m with
      | zero =>
        -- nothing more is packed: what was packed before
        have key : ∀ (qs : List Pt) (sky : List Int) (o l : List Rc), packGo h qs sky o = some l → l.take o.length = o := by
          intro qs
          induction qs with
          | nil => intro sky o l hg; simp only [packGo, Option.some.injEq] at hg; subst hg; simp
          | cons s qs ih2 =>
            intro sky o l hg
            obtain ⟨⟨a, b, f⟩, hst⟩ : ∃ t, findS sky s.x s.y h = t := ⟨_, rfl⟩
            rw [packGo_cons h s qs sky o hst] at hg
            cases f with
            | false => simp at hg
            | true =>
              rw [if_pos rfl] at hg
              have := congrArg (List.take o.length) (ih2 _ _ _ hg)
              simp only [List.take_take, List.length_append, List.length_singleton] at this
              rw [Nat.min_eq_left (by omega)] at this
              rw [this]; simp
        have h1 := congrArg (List.take out.length) (key ps _ _ _ hg)
        simp only [List.take_take, List.length_append, List.length_singleton] at h1
        rw [Nat.min_eq_left (by omega)] at h1
        simp only [List.take_zero, packGo, Nat.add_zero, h1]
        simp
      | succ m =>
        rw [List.take_succ_cons, packGo_cons h s _ sky out hst, if_pos rfl, ih m _ _ l hg (by simpa using hm)]
        simp; omega

/-- sizes that fit one on the other -/
def roomOk (w : Int) : List Pt → Int → Bool
  | [], _ => true
  | p :: ps, left => decide (1 ≤ p.x) && decide (p.x ≤ w) && decide (1 ≤ p.y) && decide (p.y ≤ left) && roomOk w ps (left - p.y)

theorem packGo_room {W : Nat} {h : Int} (ps : List Pt) : ∀ (left : Int) (sky : List Int) (out : List Rc), Inv W h sky out → (∀ x ∈ sky, x ≤ h - left) → roomOk W ps left = true → (∀ p ∈ ps, sizeOk p = true) → packGo h ps sky out ≠ none := by
  induction ps with
  | nil => intro _ _ _ _ _ _ _; simp [packGo]
  | cons s ps ih =>
    intro left sky out I hsk hr hs
    obtain ⟨sx, sy⟩ := s
    simp only [roomOk, Bool.and_eq_true, decide_eq_true_eq] at hr
    obtain ⟨⟨⟨⟨r1, r2⟩, r3⟩, r4⟩, r5⟩ := hr
    obtain ⟨⟨a, b, f⟩, hst⟩ : ∃ t, findS sky sx sy h = t := ⟨_, rfl⟩
    rw [packGo_cons h ⟨sx, sy⟩ ps sky out hst]
    have hl := I.len
    -- the first column serves
    have hm : hgt sky 0 sx.toNat + sy ≤ h := by
      have := hsk _ (hgt_mem (sky := sky) (k := 0) (n := sx.toNat) (by omega) (by omega)); omega
    cases f with
    | false =>
      have := (findTo_found sky sx.toNat sy h (sky.length + 1 - sx.toNat)).2 (by have h2 := congrArg (fun t => t.2.2) hst; exact h2)
      exact absurd hm (this.2 0 (by omega))
    | true =>
      rw [if_pos rfl]
      refine ih (left - sy) _ _ (I.step (hs _ (by simp)) hst) (fun x hx => ?_) r5 (fun p hp => hs p (by simp [hp]))
      obtain ⟨x0, rfl, hx0, rfl, _⟩ := findS_found (by omega) hst
      rcases mem_riseTo hx with rfl | hx
      · have := hsk _ (hgt_mem (sky := sky) (k := x0) (n := sx.toNat) (by omega) hx0)
        simp only at *; omega
      · have := hsk x hx; omega
end Go.Proofs.Ytneoacbacflehaa
