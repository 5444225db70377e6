/-
  THE STEPS OF face.form, read.
-/
import Derived.Test.YtkdffcoofijhkaaDoorFaceWalkA
set_option linter.unusedVariables false
set_option linter.unusedSimpArgs false
set_option maxRecDepth 8000
namespace Go.Proofs.YtkdffcoofijhkaaDoor
open Go.RowKit

/-- it returns nothing, or throws an error -/
def OkOr (b : Bool) (z : Int) (w : World) (e : Ending) (w' : World) : Prop := e = (if b then .returned (.tuple #[]) else Thrown z) ∧ Below w.heap.size w w'
theorem headD_get (ls : List (List UInt8)) (l : List UInt8) (h : ls[0]? = some l) : ls.headD [] = l := by
  cases ls with
  | nil => simp at h
  | cons a r => simpa using h
theorem lastD_get (ls : List (List UInt8)) (k : Nat) (l : List UInt8) (hk : ls.length = k + 1) (h : ls[k]? = some l) : ls.getLastD [] = l := by
  rw [List.getLastD_eq_getLast?, List.getLast?_eq_getElem?, hk]
  simp [h]

set_option maxHeartbeats 3200000 in
theorem form_any (B : Nat) (A : Option Addr) (n c : Nat) (ls : List (List UInt8)) (w : World) (h : Strs w B A n ls) (hB : B ≤ w.heap.size) (hn1 : 1 ≤ n) (hn : n ≤ 200000) (hl : ∀ l ∈ ls, l.length ≤ 100000) (hE : Env w) :
    Calls Tryd.prog 61 #[.slice A n c] w (OkOr (formOk ls) 6 w) := by
  have hlen := Lib.hid h.length
  obtain ⟨ad, l0, hA, hb0, hx0, hm0, hc0⟩ := h.get (k := 0) (by omega)
  obtain ⟨k, rfl⟩ : ∃ k, n = k + 1 := ⟨n - 1, by omega⟩
  obtain ⟨ad', lk, hA', hbk, hxk, hmk, hck⟩ := h.get (k := k) (by omega)
  obtain rfl : ad = ad' := by rw [hA] at hA'; injection hA'
  subst hA
  have HH := Lib.hid h; clear h hA'
  have hd0 := headD_get ls l0 hx0
  have hdk := lastD_get ls k lk hlen.out hxk
  have HE := Lib.hid hE; clear hE
  have HL := Lib.hid hl; clear hl
  obtain ⟨q0, hq0⟩ : ∃ q, q = (decide (k + 1 ≤ 3) && !l0.isEmpty && !lk.isEmpty) := ⟨_, rfl⟩
  have hF : formOk ls = (q0 && ls.all fun l => l.isEmpty || wholeOk l) := by
    unfold formOk
    rw [hd0, hdk, hlen.out, hq0]
  obtain ⟨R, hR⟩ : ∃ R, R = formOk ls := ⟨_, rfl⟩
  rw [← hR]
  have HR : Hid (R = (q0 && ls.all fun l => l.isEmpty || wholeOk l)) := Lib.hid (by rw [hR, hF])
  have FIN : Hid (∀ w', Below w.heap.size w w' → R = true → OkOr R 6 w (.returned (.tuple #[])) w') := Lib.hid fun w' hb h => by rw [h]; exact ⟨rfl, hb⟩
  have FIN2 : Hid (∀ w', Below w.heap.size w w' → R = false → OkOr R 6 w (Thrown 6) w') := Lib.hid fun w' hb h => by rw [h]; exact ⟨rfl, hb⟩
  generalize hQ : OkOr R 6 w = Qp at FIN FIN2 ⊢
  clear hQ hR hF hd0 hdk hx0 hm0 hxk hmk
  have c0 : w.cell? ad = some (.string ⟨l0.toArray⟩) := hc0
  have e3 : decide (((k + 1 : Nat) : Int) ≤ 3) = decide (k + 1 ≤ 3) := by simp; omega
  have HQ : Hid (q0 = (decide (k + 1 ≤ 3) && !l0.isEmpty && !lk.isEmpty)) := Lib.hid hq0
  clear hq0 hc0 e3
  unfold Thrown at *
  have t3 : (k ≤ 2 ∧ decide ((k : Int) + 1 ≤ 3) = true) ∨ (3 ≤ k ∧ decide ((k : Int) + 1 ≤ 3) = false) := by
    by_cases h : k ≤ 2
    · exact .inl ⟨h, decide_eq_true (by omega)⟩
    · exact .inr ⟨by omega, decide_eq_false (by omega)⟩
  have HC : (∃ a0 r0 a1 r1, l0 = a0 :: r0 ∧ lk = a1 :: r1 ∧ decide ((k : Int) + 1 ≤ 3) = true ∧ q0 = true) ∨ (decide ((k : Int) + 1 ≤ 3) = false ∧ q0 = false) ∨ (decide ((k : Int) + 1 ≤ 3) = true ∧ l0 = [] ∧ q0 = false) ∨ (∃ a0 r0, decide ((k : Int) + 1 ≤ 3) = true ∧ l0 = a0 :: r0 ∧ lk = [] ∧ q0 = false) := by
    rcases t3 with ⟨k3, t3⟩ | ⟨k3, t3⟩
    · have e3 : decide (k + 1 ≤ 3) = true := decide_eq_true (by omega)
      cases h0 : l0 with
      | nil => exact .inr (.inr (.inl ⟨t3, rfl, by rw [HQ.out, h0]; simp⟩))
      | cons a0 r0 =>
        cases h1 : lk with
        | nil => exact .inr (.inr (.inr ⟨a0, r0, t3, rfl, rfl, by rw [HQ.out, h0, h1]; simp⟩))
        | cons a1 r1 => exact .inl ⟨a0, r0, a1, r1, rfl, rfl, t3, by rw [HQ.out, h0, h1, e3]; rfl⟩
    · exact .inr (.inl ⟨t3, by rw [HQ.out, decide_eq_false (by omega)]; rfl⟩)
  clear t3 HQ
  have L : ∀ (q : Bool) (W : World), True := fun _ _ => trivial
  clear L
  rcases HC with ⟨a0, r0, a1, r1, rfl, rfl, t3, rfl⟩ | ⟨t3, rfl⟩ | ⟨t3, rfl, rfl⟩ | ⟨a0, r0, t3, rfl, rfl, rfl⟩
  · go_enter Tryd.func61, Tryd.ntmps61
    go_wp2_with fail
    clear c0 hck hb0 hbk
    go_loopw [2, 27] (fun b i wr => ∃ (j : Nat) (b' : Bool), j ≤ k + 1 ∧ i = .int .i64 j ∧ b = .bool b' ∧ Hid (b' = (true && (ls.take j).all fun l => l.isEmpty || wholeOk l)) ∧ Hid (Below w.heap.size w wr)) (fun _ i _ => k + 1 - (intOf i).toNat)
    case atStart => exact ⟨0, _, by omega, rfl, rfl, Lib.hid (by simp), Lib.hid (Below.refl _ _)⟩
    case round =>
      obtain ⟨j, b, hj, rfl, rfl, hb, hB0⟩ := hrel
      by_cases hlt : j < k + 1
      · have t0 : decide ((j : Int) < (k : Int) + 1) = true := decide_eq_true (by omega)
        obtain ⟨ad2, l, e2, hbk, hx, hm, hc⟩ := (HH.out.below hB0.out hB).get hlt
        obtain rfl : ad = ad2 := by injection e2
        have hll := HL.out l hm
        have htk : Hid ((true && (ls.take (j + 1)).all fun l => l.isEmpty || wholeOk l) = (b && (l.isEmpty || wholeOk l))) := Lib.hid (by
          rw [take_snoc' ls j l hx, List.all_append, hb.out]
          simp only [List.all_cons, List.all_nil, Bool.and_true]
          cases (ls.take j).all fun l => l.isEmpty || wholeOk l <;> simp)
        have K := Lib.hid (fun W hW => whole_any l W hll hW)
        obtain ⟨v, er, hv⟩ : ∃ v e, wholeS l = (v, e) := ⟨_, _, rfl⟩
        have hek : Hid (wholeOk l = (er == 0)) := Lib.hid (by
          unfold wholeS at hv
          cases h9 : wholeOk l with
          | true => rw [h9, if_pos rfl] at hv; injection hv with _ hv2; rw [← hv2]; rfl
          | false => rw [h9, if_neg Bool.false_ne_true] at hv; injection hv with _ hv2; rw [← hv2]; rfl)
        rw [hv] at K
        unfold NE2 at K
        clear hx hm hv e2 hb hll
        cases l with
        | nil =>
          go_wp2_with fail
          go_roundw
          case rel => exact ⟨j + 1, b, by omega, by go_num, rfl, Lib.hid (by rw [htk.out]; simp), hB0⟩
          case measure => simp only [intOf]; omega
        | cons a r =>
          go_wp2_with fail
          refine (K.out _ (HE.out.on hB0.out)).mono ?_
          clear K hc
          rintro e w1 ⟨rfl, hb1⟩
          have HB := Lib.hid (hB0.out.trans (hb1.mono hB0.out.size)); clear hb1
          cases b with
          | true =>
            cases he : (er == 0) with
            | true =>
              go_wp2_with fail
              go_roundw
              case rel => exact ⟨j + 1, true, by omega, by go_num, rfl, Lib.hid (by rw [htk.out, hek.out, he]; simp), HB⟩
              case measure => simp only [intOf]; omega
            | false =>
              go_wp2_with fail
              go_roundw
              case rel => exact ⟨j + 1, false, by omega, by go_num, rfl, Lib.hid (by rw [htk.out, hek.out, he]; simp), HB⟩
              case measure => simp only [intOf]; omega
          | false =>
            go_wp2_with fail
            go_roundw
            case rel => exact ⟨j + 1, false, by omega, by go_num, rfl, Lib.hid (by rw [htk.out]; simp), HB⟩
            case measure => simp only [intOf]; omega
      · have t0 : decide ((j : Int) < (k : Int) + 1) = false := decide_eq_false (by omega)
        have hRb : Hid (R = b) := Lib.hid (by rw [HR.out, hb.out, List.take_of_length_le (by rw [hlen.out]; omega)])
        clear hb
        cases b with
        | true =>
          go_wp2_with fail
          first | exact FIN.out _ hB0.out hRb.out | (go_end0; exact FIN.out _ hB0.out hRb.out)
        | false =>
          go_wp2_with fail
          exact ⟨rfl, FIN2.out _ hB0.out hRb.out⟩
  · go_enter Tryd.func61, Tryd.ntmps61
    go_wp2_with fail
    clear c0 hck hb0 hbk
    go_loopw [2, 27] (fun b i wr => ∃ (j : Nat) (b' : Bool), j ≤ k + 1 ∧ i = .int .i64 j ∧ b = .bool b' ∧ Hid (b' = (false && (ls.take j).all fun l => l.isEmpty || wholeOk l)) ∧ Hid (Below w.heap.size w wr)) (fun _ i _ => k + 1 - (intOf i).toNat)
    case atStart => exact ⟨0, _, by omega, rfl, rfl, Lib.hid (by simp), Lib.hid (Below.refl _ _)⟩
    case round =>
      obtain ⟨j, b, hj, rfl, rfl, hb, hB0⟩ := hrel
      by_cases hlt : j < k + 1
      · have t0 : decide ((j : Int) < (k : Int) + 1) = true := decide_eq_true (by omega)
        obtain ⟨ad2, l, e2, hbk, hx, hm, hc⟩ := (HH.out.below hB0.out hB).get hlt
        obtain rfl : ad = ad2 := by injection e2
        have hll := HL.out l hm
        have htk : Hid ((false && (ls.take (j + 1)).all fun l => l.isEmpty || wholeOk l) = (b && (l.isEmpty || wholeOk l))) := Lib.hid (by
          rw [take_snoc' ls j l hx, List.all_append, hb.out]
          simp only [List.all_cons, List.all_nil, Bool.and_true]
          cases (ls.take j).all fun l => l.isEmpty || wholeOk l <;> simp)
        have K := Lib.hid (fun W hW => whole_any l W hll hW)
        obtain ⟨v, er, hv⟩ : ∃ v e, wholeS l = (v, e) := ⟨_, _, rfl⟩
        have hek : Hid (wholeOk l = (er == 0)) := Lib.hid (by
          unfold wholeS at hv
          cases h9 : wholeOk l with
          | true => rw [h9, if_pos rfl] at hv; injection hv with _ hv2; rw [← hv2]; rfl
          | false => rw [h9, if_neg Bool.false_ne_true] at hv; injection hv with _ hv2; rw [← hv2]; rfl)
        rw [hv] at K
        unfold NE2 at K
        clear hx hm hv e2 hb hll
        cases l with
        | nil =>
          go_wp2_with fail
          go_roundw
          case rel => exact ⟨j + 1, b, by omega, by go_num, rfl, Lib.hid (by rw [htk.out]; simp), hB0⟩
          case measure => simp only [intOf]; omega
        | cons a r =>
          go_wp2_with fail
          refine (K.out _ (HE.out.on hB0.out)).mono ?_
          clear K hc
          rintro e w1 ⟨rfl, hb1⟩
          have HB := Lib.hid (hB0.out.trans (hb1.mono hB0.out.size)); clear hb1
          cases b with
          | true =>
            cases he : (er == 0) with
            | true =>
              go_wp2_with fail
              go_roundw
              case rel => exact ⟨j + 1, true, by omega, by go_num, rfl, Lib.hid (by rw [htk.out, hek.out, he]; simp), HB⟩
              case measure => simp only [intOf]; omega
            | false =>
              go_wp2_with fail
              go_roundw
              case rel => exact ⟨j + 1, false, by omega, by go_num, rfl, Lib.hid (by rw [htk.out, hek.out, he]; simp), HB⟩
              case measure => simp only [intOf]; omega
          | false =>
            go_wp2_with fail
            go_roundw
            case rel => exact ⟨j + 1, false, by omega, by go_num, rfl, Lib.hid (by rw [htk.out]; simp), HB⟩
            case measure => simp only [intOf]; omega
      · have t0 : decide ((j : Int) < (k : Int) + 1) = false := decide_eq_false (by omega)
        have hRb : Hid (R = b) := Lib.hid (by rw [HR.out, hb.out, List.take_of_length_le (by rw [hlen.out]; omega)])
        clear hb
        cases b with
        | true =>
          go_wp2_with fail
          first | exact FIN.out _ hB0.out hRb.out | (go_end0; exact FIN.out _ hB0.out hRb.out)
        | false =>
          go_wp2_with fail
          exact ⟨rfl, FIN2.out _ hB0.out hRb.out⟩
  · go_enter Tryd.func61, Tryd.ntmps61
    go_wp2_with fail
    clear c0 hck hb0 hbk
    go_loopw [2, 27] (fun b i wr => ∃ (j : Nat) (b' : Bool), j ≤ k + 1 ∧ i = .int .i64 j ∧ b = .bool b' ∧ Hid (b' = (false && (ls.take j).all fun l => l.isEmpty || wholeOk l)) ∧ Hid (Below w.heap.size w wr)) (fun _ i _ => k + 1 - (intOf i).toNat)
    case atStart => exact ⟨0, _, by omega, rfl, rfl, Lib.hid (by simp), Lib.hid (Below.refl _ _)⟩
    case round =>
      obtain ⟨j, b, hj, rfl, rfl, hb, hB0⟩ := hrel
      by_cases hlt : j < k + 1
      · have t0 : decide ((j : Int) < (k : Int) + 1) = true := decide_eq_true (by omega)
        obtain ⟨ad2, l, e2, hbk, hx, hm, hc⟩ := (HH.out.below hB0.out hB).get hlt
        obtain rfl : ad = ad2 := by injection e2
        have hll := HL.out l hm
        have htk : Hid ((false && (ls.take (j + 1)).all fun l => l.isEmpty || wholeOk l) = (b && (l.isEmpty || wholeOk l))) := Lib.hid (by
          rw [take_snoc' ls j l hx, List.all_append, hb.out]
          simp only [List.all_cons, List.all_nil, Bool.and_true]
          cases (ls.take j).all fun l => l.isEmpty || wholeOk l <;> simp)
        have K := Lib.hid (fun W hW => whole_any l W hll hW)
        obtain ⟨v, er, hv⟩ : ∃ v e, wholeS l = (v, e) := ⟨_, _, rfl⟩
        have hek : Hid (wholeOk l = (er == 0)) := Lib.hid (by
          unfold wholeS at hv
          cases h9 : wholeOk l with
          | true => rw [h9, if_pos rfl] at hv; injection hv with _ hv2; rw [← hv2]; rfl
          | false => rw [h9, if_neg Bool.false_ne_true] at hv; injection hv with _ hv2; rw [← hv2]; rfl)
        rw [hv] at K
        unfold NE2 at K
        clear hx hm hv e2 hb hll
        cases l with
        | nil =>
          go_wp2_with fail
          go_roundw
          case rel => exact ⟨j + 1, b, by omega, by go_num, rfl, Lib.hid (by rw [htk.out]; simp), hB0⟩
          case measure => simp only [intOf]; omega
        | cons a r =>
          go_wp2_with fail
          refine (K.out _ (HE.out.on hB0.out)).mono ?_
          clear K hc
          rintro e w1 ⟨rfl, hb1⟩
          have HB := Lib.hid (hB0.out.trans (hb1.mono hB0.out.size)); clear hb1
          cases b with
          | true =>
            cases he : (er == 0) with
            | true =>
              go_wp2_with fail
              go_roundw
              case rel => exact ⟨j + 1, true, by omega, by go_num, rfl, Lib.hid (by rw [htk.out, hek.out, he]; simp), HB⟩
              case measure => simp only [intOf]; omega
            | false =>
              go_wp2_with fail
              go_roundw
              case rel => exact ⟨j + 1, false, by omega, by go_num, rfl, Lib.hid (by rw [htk.out, hek.out, he]; simp), HB⟩
              case measure => simp only [intOf]; omega
          | false =>
            go_wp2_with fail
            go_roundw
            case rel => exact ⟨j + 1, false, by omega, by go_num, rfl, Lib.hid (by rw [htk.out]; simp), HB⟩
            case measure => simp only [intOf]; omega
      · have t0 : decide ((j : Int) < (k : Int) + 1) = false := decide_eq_false (by omega)
        have hRb : Hid (R = b) := Lib.hid (by rw [HR.out, hb.out, List.take_of_length_le (by rw [hlen.out]; omega)])
        clear hb
        cases b with
        | true =>
          go_wp2_with fail
          first | exact FIN.out _ hB0.out hRb.out | (go_end0; exact FIN.out _ hB0.out hRb.out)
        | false =>
          go_wp2_with fail
          exact ⟨rfl, FIN2.out _ hB0.out hRb.out⟩
  · go_enter Tryd.func61, Tryd.ntmps61
    go_wp2_with fail
    clear c0 hck hb0 hbk
    go_loopw [2, 27] (fun b i wr => ∃ (j : Nat) (b' : Bool), j ≤ k + 1 ∧ i = .int .i64 j ∧ b = .bool b' ∧ Hid (b' = (false && (ls.take j).all fun l => l.isEmpty || wholeOk l)) ∧ Hid (Below w.heap.size w wr)) (fun _ i _ => k + 1 - (intOf i).toNat)
    case atStart => exact ⟨0, _, by omega, rfl, rfl, Lib.hid (by simp), Lib.hid (Below.refl _ _)⟩
    case round =>
      obtain ⟨j, b, hj, rfl, rfl, hb, hB0⟩ := hrel
      by_cases hlt : j < k + 1
      · have t0 : decide ((j : Int) < (k : Int) + 1) = true := decide_eq_true (by omega)
        obtain ⟨ad2, l, e2, hbk, hx, hm, hc⟩ := (HH.out.below hB0.out hB).get hlt
        obtain rfl : ad = ad2 := by injection e2
        have hll := HL.out l hm
        have htk : Hid ((false && (ls.take (j + 1)).all fun l => l.isEmpty || wholeOk l) = (b && (l.isEmpty || wholeOk l))) := Lib.hid (by
          rw [take_snoc' ls j l hx, List.all_append, hb.out]
          simp only [List.all_cons, List.all_nil, Bool.and_true]
          cases (ls.take j).all fun l => l.isEmpty || wholeOk l <;> simp)
        have K := Lib.hid (fun W hW => whole_any l W hll hW)
        obtain ⟨v, er, hv⟩ : ∃ v e, wholeS l = (v, e) := ⟨_, _, rfl⟩
        have hek : Hid (wholeOk l = (er == 0)) := Lib.hid (by
          unfold wholeS at hv
          cases h9 : wholeOk l with
          | true => rw [h9, if_pos rfl] at hv; injection hv with _ hv2; rw [← hv2]; rfl
          | false => rw [h9, if_neg Bool.false_ne_true] at hv; injection hv with _ hv2; rw [← hv2]; rfl)
        rw [hv] at K
        unfold NE2 at K
        clear hx hm hv e2 hb hll
        cases l with
        | nil =>
          go_wp2_with fail
          go_roundw
          case rel => exact ⟨j + 1, b, by omega, by go_num, rfl, Lib.hid (by rw [htk.out]; simp), hB0⟩
          case measure => simp only [intOf]; omega
        | cons a r =>
          go_wp2_with fail
          refine (K.out _ (HE.out.on hB0.out)).mono ?_
          clear K hc
          rintro e w1 ⟨rfl, hb1⟩
          have HB := Lib.hid (hB0.out.trans (hb1.mono hB0.out.size)); clear hb1
          cases b with
          | true =>
            cases he : (er == 0) with
            | true =>
              go_wp2_with fail
              go_roundw
              case rel => exact ⟨j + 1, true, by omega, by go_num, rfl, Lib.hid (by rw [htk.out, hek.out, he]; simp), HB⟩
              case measure => simp only [intOf]; omega
            | false =>
              go_wp2_with fail
              go_roundw
              case rel => exact ⟨j + 1, false, by omega, by go_num, rfl, Lib.hid (by rw [htk.out, hek.out, he]; simp), HB⟩
              case measure => simp only [intOf]; omega
          | false =>
            go_wp2_with fail
            go_roundw
            case rel => exact ⟨j + 1, false, by omega, by go_num, rfl, Lib.hid (by rw [htk.out]; simp), HB⟩
            case measure => simp only [intOf]; omega
      · have t0 : decide ((j : Int) < (k : Int) + 1) = false := decide_eq_false (by omega)
        have hRb : Hid (R = b) := Lib.hid (by rw [HR.out, hb.out, List.take_of_length_le (by rw [hlen.out]; omega)])
        clear hb
        cases b with
        | true =>
          go_wp2_with fail
          first | exact FIN.out _ hB0.out hRb.out | (go_end0; exact FIN.out _ hB0.out hRb.out)
        | false =>
          go_wp2_with fail
          exact ⟨rfl, FIN2.out _ hB0.out hRb.out⟩
end Go.Proofs.YtkdffcoofijhkaaDoor
