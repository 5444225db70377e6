/-
  THE STEPS OF face.Print.
-/
import Derived.Test.YtkdffcoofijhkaaDoorFaceWalkE
import Derived.Test.YtkdffcoofijhkaaDoorFacePr
set_option linter.unusedVariables false
set_option linter.unusedSimpArgs false
set_option maxRecDepth 8000
namespace Go.Proofs.YtkdffcoofijhkaaDoor
open Go.RowKit

def maxV (v t n : Int) : Int := if (if v < t then t else v) < n then n else if v < t then t else v
theorem maxV_le (v t n z : Int) : maxV v t n ≤ z ↔ v ≤ z ∧ t ≤ z ∧ n ≤ z := by unfold maxV; split <;> split <;> omega
theorem fprint_no (c : P3) (w : World) (hc : c.bd) (h : okC c = false) : Calls Tryd.prog 32 #[p3V c] w (SE w [] 1) := by
  have hk : min c.b c.c < -1 ∨ (-1 ≤ min c.b c.c ∧ c.a < 0) ∨ (-1 ≤ min c.b c.c ∧ 0 ≤ c.a ∧ 9999998 < maxV c.a c.b c.c) := by
    unfold okC at h
    rw [decide_eq_false_iff_not] at h
    by_cases h1 : min c.b c.c < -1
    · exact .inl h1
    · by_cases h2 : c.a < 0
      · exact .inr (.inl ⟨by omega, h2⟩)
      · refine .inr (.inr ⟨by omega, by omega, ?_⟩)
        rcases Int.lt_or_le 9999998 (maxV c.a c.b c.c) with h3 | h3
        · exact h3
        · have := (maxV_le _ _ _ _).1 h3
          omega
  obtain ⟨v, t, n⟩ := c
  unfold p3V P3.bd i64b SE at *
  simp only at *
  clear h
  have HC := Lib.hid hc; clear hc
  have c0 := SlotN.new w [.int .i64 v, .int .i64 t, .int .i64 n] #[.int .i64 v, .int .i64 t, .int .i64 n] 26 rfl
  have hb : Below w.heap.size w (w.alloc (.cells #[.int .i64 v, .int .i64 t, .int .i64 n] 26)) := (Below.refl _ _).alloc (Nat.le_refl _) _
  have d0 := c0.c 0 _ rfl
  have d1 := c0.c 1 _ rfl
  have d2 := c0.c 2 _ rfl
  clear c0
  rcases hk with h1 | ⟨h1, h2⟩ | ⟨h1, h2, h3⟩
  · have t1 : decide (min t n < -1) = true := decide_eq_true h1
    clear h1
    go_enter Tryd.func32, Tryd.ntmps32
    go_wp2_with fail
    all_goals
      go_ret2
      exact ⟨rfl, hb⟩
  · have t1 : decide (min t n < -1) = false := decide_eq_false (by omega)
    have t2 : decide (v < 0) = true := decide_eq_true h2
    clear h1 h2
    go_enter Tryd.func32, Tryd.ntmps32
    go_wp2_with fail
    all_goals
      go_ret2
      exact ⟨rfl, hb⟩
  · have t1 : decide (min t n < -1) = false := decide_eq_false (by omega)
    have t2 : decide (v < 0) = false := decide_eq_false (by omega)
    have t3 : decide (9999998 < if (if v < t then t else v) < n then n else if v < t then t else v) = true := decide_eq_true h3
    clear h1 h2 h3
    go_enter Tryd.func32, Tryd.ntmps32
    go_wp2_with fail
    all_goals
      go_ret2
      exact ⟨rfl, hb⟩

theorem join_any (G : Nat) (a b c : List UInt8) (w : World) (h : SlotN w G [strV a, strV b, strV c]) (hG : G < w.heap.size) (hl : a.length + b.length + c.length ≤ 1000) : Calls Tryd.prog 59 #[.slice (some ⟨G, 0, none⟩) 3 3, .string ⟨#[47]⟩] w (SR w (Lib.join [a, b, c] [47])) := by
  have hj : (Lib.join [a, b, c] [47]).length ≤ 1002 := by rw [Lib.join_cons]; simp [Lib.joinTail]; omega
  refine (Tryd.strings_Join G 0 3 [⟨a.toArray⟩, ⟨b.toArray⟩, ⟨c.toArray⟩] ⟨#[47]⟩ w (fun j x hx => ?_) hG (by simp) (by simp) (by show (Lib.join [a, b, c] [47]).length ≤ _; omega)).mono fun _ _ h => h
  rw [Nat.zero_add]
  refine h.c j _ ?_
  have hlt := (List.getElem?_eq_some_iff.1 hx).1
  simp only [List.length_cons, List.length_nil] at hlt
  rcases (show j = 0 ∨ j = 1 ∨ j = 2 by omega) with rfl | rfl | rfl <;> simp at hx <;> subst hx <;> rfl
theorem itoa_nat (x : Int) (h : 0 ≤ x) : Lib.itoa x = Lib.decDigits x.toNat := by unfold Lib.itoa; rw [if_neg (by omega)]
set_option maxHeartbeats 3200000 in
theorem fprint_yes (c : P3) (w : World) (hE : Env w) (h : okC c = true) : Calls Tryd.prog 32 #[p3V c] w (SE w (textC c) 0) := by
  unfold okC at h
  rw [decide_eq_true_iff] at h
  obtain ⟨h1, h2, h3, h4, h5, h6⟩ := h
  obtain ⟨mx, hmx⟩ : ∃ m, m = maxV c.a c.b c.c := ⟨_, rfl⟩
  obtain ⟨mn, hmn⟩ : ∃ m, m = if c.c < c.b then c.c else c.b := ⟨_, rfl⟩
  have HMX : ∀ ts ty W, (Builtin.max_ ts ty #[.int .i64 c.a, .int .i64 c.b, .int .i64 c.c]).run Tryd.prog W = .ok (.int .i64 mx) W := fun ts ty W => by
    rw [run_max_int3, hmx]; rfl
  have HMN : ∀ ts ty W, (Builtin.min_ ts ty #[.int .i64 c.b, .int .i64 c.c]).run Tryd.prog W = .ok (.int .i64 mn) W := fun ts ty W => by
    rw [run_min_int2, hmn]
  have t3 : decide (9999998 < mx) = false := decide_eq_false (by
    have := (maxV_le c.a c.b c.c 9999998).2 ⟨h2, h4, h6⟩
    omega)
  have t1 : decide (mn < -1) = false := decide_eq_false (by rw [hmn]; split <;> omega)
  clear hmx hmn
  have t2 : decide (c.a < 0) = false := decide_eq_false (by omega)
  have FIN : Hid (∀ w', Below w.heap.size w w' → SE w (textC c) 0 (.returned (.tuple #[.string ⟨(textC c).toArray⟩, .int .i64 0])) w') := Lib.hid fun w' hb => ⟨rfl, hb⟩
  have K0 := Lib.hid (fun W hW => itoa_any (c.a + 1) W (by unfold i64b; omega) hW)
  rw [itoa_nat _ (by omega)] at K0
  have HJ : Hid (textC c = Lib.trimRightB (Lib.join [Lib.decDigits (c.a + 1).toNat, numC c.b, numC c.c] [47]) 47) := Lib.hid rfl
  generalize textC c = tx at FIN HJ ⊢
  generalize hQ : SE w tx 0 = Qp at FIN ⊢
  clear hQ
  obtain ⟨v, t, n⟩ := c
  unfold p3V at *
  simp only at *
  have hlv : (Lib.decDigits (v + 1).toNat).length ≤ 7 := dec_len _ 6 (by omega)
  generalize Lib.decDigits (v + 1).toNat = dv at *
  have HE := Lib.hid hE; clear hE
  have c0 := SlotN.new w [.int .i64 v, .int .i64 t, .int .i64 n] #[.int .i64 v, .int .i64 t, .int .i64 n] 26 rfl
  have hb : Below w.heap.size w (w.alloc (.cells #[.int .i64 v, .int .i64 t, .int .i64 n] 26)) := (Below.refl _ _).alloc (Nat.le_refl _) _
  have hz : (w.alloc (.cells #[.int .i64 v, .int .i64 t, .int .i64 n] 26)).heap.size = w.heap.size + 1 := by simp
  have d0 := c0.c 0 _ rfl
  have d1 := c0.c 1 _ rfl
  have d2 := c0.c 2 _ rfl
  go_enter Tryd.func32, Tryd.ntmps32
  go_wp2_with fail
  generalize w.alloc (.cells #[.int .i64 v, .int .i64 t, .int .i64 n] 26) = W0 at c0 hb hz ⊢
  clear d0 d1 d2
  have HB := Lib.hid hb; clear hb
  refine (K0.out _ (HE.out.tab.on HB.out)).mono ?_
  clear K0
  rintro e w1 ⟨rfl, hb1⟩
  have HB := Lib.hid (HB.out.trans (hb1.mono HB.out.size))
  have c1 := c0.below hb1 (by omega)
  have hz1 := hb1.size
  clear hb1 c0
  have la : w.heap.size < w1.heap.size := by omega
  clear hz hz1
  have d0 := c1.c 0 _ rfl
  have d1 := c1.c 1 _ rfl
  have d2 := c1.c 2 _ rfl
  have s0 := SlotN.new w1 [strV dv, strV [], strV []] #[.string ⟨dv.toArray⟩, .string ⟨#[]⟩, .string ⟨#[]⟩] 9 rfl
  have bs : Below (w1.heap.size + 1) (w1.alloc (.cells #[.string ⟨dv.toArray⟩, .string ⟨#[]⟩, .string ⟨#[]⟩] 9)) ((w1.alloc (.cells #[.string ⟨dv.toArray⟩, .string ⟨#[]⟩, .string ⟨#[]⟩] 9)).alloc (.cells #[.int .i64 t, .int .i64 n] 3)) := (Below.refl _ _).alloc (by simp) _
  have s1 := SlotN.new (w1.alloc (.cells #[.string ⟨dv.toArray⟩, .string ⟨#[]⟩, .string ⟨#[]⟩] 9)) [.int .i64 t, .int .i64 n] #[.int .i64 t, .int .i64 n] 3 rfl
  rw [World.size_alloc] at s1
  have s0 := s0.below bs (by omega)
  have hb2 : Below w1.heap.size w1 ((w1.alloc (.cells #[.string ⟨dv.toArray⟩, .string ⟨#[]⟩, .string ⟨#[]⟩] 9)).alloc (.cells #[.int .i64 t, .int .i64 n] 3)) := ((Below.refl _ _).alloc (Nat.le_refl _) _).alloc (by simp) _
  have hz2 : ((w1.alloc (.cells #[.string ⟨dv.toArray⟩, .string ⟨#[]⟩, .string ⟨#[]⟩] 9)).alloc (.cells #[.int .i64 t, .int .i64 n] 3)).heap.size = w1.heap.size + 2 := by simp
  clear c1 bs
  go_wp2_with fail
  generalize (w1.alloc (.cells #[.string ⟨dv.toArray⟩, .string ⟨#[]⟩, .string ⟨#[]⟩] 9)).alloc (.cells #[.int .i64 t, .int .i64 n] 3) = W2 at s0 s1 hb2 hz2 ⊢
  have HB := Lib.hid (HB.out.trans (hb2.mono HB.out.size))
  clear hb2 d0 d1 d2
  obtain ⟨G, hG⟩ : ∃ G, G = w1.heap.size := ⟨_, rfl⟩
  rw [← hG] at s0 s1 hz2 ⊢
  have hGw : w.heap.size ≤ G := by omega
  have HS0 : Hid (SlotN W2 G [strV dv, strV (if 0 < 0 then numC t else []), strV (if 1 < 0 then numC n else [])]) := Lib.hid s0
  have HS1 := Lib.hid s1
  clear s0 s1 hG la
  have hz3 : G + 1 < W2.heap.size := by omega
  clear hz2
  go_loopw [39] (fun i wr => ∃ k : Nat, k ≤ 2 ∧ i = .int .i64 k ∧ Hid (SlotN wr G [strV dv, strV (if 0 < k then numC t else []), strV (if 1 < k then numC n else [])]) ∧ Hid (SlotN wr (G + 1) [.int .i64 t, .int .i64 n]) ∧ Hid (Below w.heap.size w wr) ∧ G + 1 < wr.heap.size) (fun i _ => 2 - (intOf i).toNat)
  case atStart => exact ⟨0, by omega, rfl, HS0, HS1, HB, hz3⟩
  case round =>
    clear HS0 HS1 HB hz3
    obtain ⟨k, hk, rfl, HS0, HS1, HB, hz3⟩ := hrel
    by_cases hlt : k < 2
    · have t0 : decide ((k : Int) < 2) = true := decide_eq_true (by omega)
      obtain ⟨x, hxx⟩ : ∃ x, [t, n][k]? = some x := ⟨_, List.getElem?_eq_getElem (by simpa using hlt)⟩
      have hxb : -1 ≤ x ∧ x ≤ 9999998 := by
        rcases (show k = 0 ∨ k = 1 by omega) with rfl | rfl <;> simp at hxx <;> subst hxx <;> exact ⟨by assumption, by assumption⟩
      have cx : wr.cell? ⟨G + 1, k, none⟩ = some (.int .i64 x) := HS1.out.c k _ (by
        rcases (show k = 0 ∨ k = 1 by omega) with rfl | rfl <;> simp at hxx <;> subst hxx <;> rfl)
      have a1 : (⟨G + 1, 0, none⟩ : Addr).add k = ⟨G + 1, k, none⟩ := addr_lit _ _
      have a2 : (⟨G, 0, none⟩ : Addr).add (k + 1) = ⟨G, k + 1, none⟩ := addr_lit _ _
      have HX := Lib.hid hxx; clear hxx
      obtain ⟨hx1, hx2⟩ := hxb
      have k0 : (0 : Int) ≤ (k : Int) := by omega
      have k2 : (k : Int) + 1 < 3 := by omega
      have k1 : ((k : Int) + 1).toNat = k + 1 := by omega
      by_cases hx : 0 ≤ x
      · have t4 : decide (0 ≤ x) = true := decide_eq_true hx
        have K := Lib.hid (fun W hW => itoa_any (x + 1) W (by unfold i64b; omega) hW)
        rw [itoa_nat _ (by omega)] at K
        have hnx : Hid (numC x = Lib.decDigits (x + 1).toNat) := Lib.hid (by unfold numC; rw [if_pos hx])
        rw [← hnx.out] at K
        clear hx
        go_wp2_with fail
        refine (K.out _ (HE.out.tab.on HB.out)).mono ?_
        clear K cx
        rintro e w3 ⟨rfl, hb1⟩
        have HS0 := Lib.hid (HS0.out.below hb1 (by omega))
        have HS1 := Lib.hid (HS1.out.below hb1 (by omega))
        have HB := Lib.hid (HB.out.trans (hb1.mono HB.out.size))
        have hz4 : G + 1 < w3.heap.size := by have := hb1.size; omega
        clear hb1
        have HS2 := Lib.hid (HS0.out.set3 (k + 1) (by omega) (strV (numC x)))
        have e3 : Hid ([strV dv, strV (if 0 < k then numC t else []), strV (if 1 < k then numC n else [])].set (k + 1) (strV (numC x)) = [strV dv, strV (if 0 < k + 1 then numC t else []), strV (if 1 < k + 1 then numC n else [])]) := Lib.hid (by
          have hxx := HX.out
          rcases (show k = 0 ∨ k = 1 by omega) with rfl | rfl <;> simp at hxx <;> subst hxx <;> simp)
        rw [e3.out] at HS2
        have HB2 : Hid (Below w.heap.size w (w3.setCell ⟨G, k + 1, none⟩ (strV (numC x)))) := Lib.hid (HB.out.setCell (p := ⟨G, k + 1, none⟩) hGw _)
        have HS3 : Hid (SlotN (w3.setCell ⟨G, k + 1, none⟩ (strV (numC x))) (G + 1) [.int .i64 t, .int .i64 n]) := Lib.hid ⟨fun j u hj => by rw [World.cell?_setCell_other _ _ _ _ (by simp)]; exact HS1.out.c j u hj, fun j => by rw [World.frozen?_setCell]; exact HS1.out.f j⟩
        obtain ⟨u0, hu0⟩ : ∃ u, w3.cell? ⟨G, k + 1, none⟩ = some u := ⟨_, HS0.out.c (k + 1) _ (List.getElem?_eq_getElem (by simp; omega))⟩
        have f0 := HS0.out.f (k + 1)
        unfold strV at HS2 HS3 HB2
        clear e3
        go_wp2_with fail
        go_roundw
        case rel => exact ⟨k + 1, by omega, by go_num, HS2, HS3, HB2, by simpa using hz4⟩
        case measure => simp only [intOf]; omega
      · have t4 : decide (0 ≤ x) = false := decide_eq_false hx
        have hnx : Hid (numC x = []) := Lib.hid (by unfold numC; rw [if_neg hx])
        have HS2 : Hid (SlotN wr G [strV dv, strV (if 0 < k + 1 then numC t else []), strV (if 1 < k + 1 then numC n else [])]) := Lib.hid (by
          have hxx := HX.out
          have h9 := HS0.out
          have hn9 := hnx.out
          rcases (show k = 0 ∨ k = 1 by omega) with rfl | rfl <;> simp at hxx <;> subst hxx <;> simpa [hn9] using h9)
        clear hx
        go_wp2_with fail
        go_roundw
        case rel => exact ⟨k + 1, by omega, by go_num, HS2, HS1, HB, hz3⟩
        case measure => simp only [intOf]; omega
    · have t0 : decide ((k : Int) < 2) = false := decide_eq_false (by omega)
      obtain rfl : k = 2 := by omega
      have l1 : (numC t).length ≤ 7 := by unfold numC; split; exact dec_len _ 6 (by omega); simp
      have l2 : (numC n).length ≤ 7 := by unfold numC; split; exact dec_len _ 6 (by omega); simp
      have HS : Hid (SlotN wr G [strV dv, strV (numC t), strV (numC n)]) := Lib.hid (by simpa using HS0.out)
      have K1 := Lib.hid (join_any G dv (numC t) (numC n) wr HS.out (by omega) (by omega))
      have hjl : (Lib.join [dv, numC t, numC n] [47]).length ≤ 100 := by rw [Lib.join_cons]; simp [Lib.joinTail]; omega
      generalize Lib.join [dv, numC t, numC n] [47] = J at *
      have K2 := Lib.hid (fun W => trimright_any J 47 (by decide) W (by omega))
      rw [← HJ.out] at K2
      unfold SR at K1
      clear l1 l2
      go_wp2_with fail
      refine K1.out.mono ?_
      clear K1
      rintro e w3 ⟨rfl, hb1⟩
      have HB := Lib.hid (HB.out.trans (hb1.mono HB.out.size)); clear hb1
      go_wp2_with fail
      refine (K2.out _).mono ?_
      clear K2
      rintro e w4 ⟨rfl, rfl⟩
      go_wp2_with fail
      first | exact FIN.out _ HB.out | (go_ret2; exact FIN.out _ HB.out)
theorem fprint_any (c : P3) (w : World) (hc : c.bd) (hE : Env w) : Calls Tryd.prog 32 #[p3V c] w (SE w (printC c).1 (printC c).2) := by
  unfold printC
  cases h : okC c with
  | true => exact fprint_yes c w hE h
  | false => exact fprint_no c w hc h
end Go.Proofs.YtkdffcoofijhkaaDoor
