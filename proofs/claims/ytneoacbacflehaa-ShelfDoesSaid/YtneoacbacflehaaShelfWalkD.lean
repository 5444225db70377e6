/-
  THE WALKS OF shelf.Apart AND shelf.Is.
-/
import Derived.Test.YtneoacbacflehaaShelfWalkA
set_option linter.unusedVariables false
set_option linter.unusedSimpArgs false
namespace Go.Proofs.Ytneoacbacflehaa
open Go.RowKit

theorem u64_diff (a n b : Int) (ha : i64b a) (hb : i64b b) (hn : 1 ≤ n ∧ n ≤ 9223372036854775807) (h : a ≤ b) :
    decide (n ≤ IntKind.u64.wrap (IntKind.u64.wrap b - IntKind.u64.wrap a)) = decide (a + n ≤ b) := by
  obtain ⟨a1, a2⟩ := ha
  obtain ⟨b1, b2⟩ := hb
  obtain ⟨n1, n2⟩ := hn
  simp only [IntKind.wrap_u64]
  rw [decide_eq_decide]
  omega

theorem behind_any (a n b : Int) (w : World) (ha : i64b a) (hb : i64b b) (hn : 1 ≤ n ∧ n ≤ 9223372036854775807) :
    Calls Try.prog 36 #[.int .i64 a, .int .i64 n, .int .i64 b] w fun e w' => e = .returned (.bool (decide (a + n ≤ b))) ∧ w = w' := by
  have hd := Lib.hid (u64_diff a n b ha hb hn)
  by_cases h : a ≤ b
  · have d : decide (a ≤ b) = true := decide_eq_true h
    have H := Lib.hid h; clear h
    go_enter Try.func36, Try.ntmps36
    go_wp2
    go_ret
    exact ⟨ret_bool (hd.out H.out), rfl⟩
  · have d : decide (a ≤ b) = false := decide_eq_false h
    have H := Lib.hid h; clear h
    go_enter Try.func36, Try.ntmps36
    go_wp2
    go_ret
    exact ⟨ret_bool (by have := H.out; symm; rw [decide_eq_false_iff_not]; omega), rfl⟩

theorem free_any (x n y m : Int) (w : World) (hx : i64b x) (hn : i64b n) (hy : i64b y) (hm : i64b m) :
    Calls Try.prog 35 #[.int .i64 x, .int .i64 n, .int .i64 y, .int .i64 m] w fun e w' => e = .returned (.bool (freeS x n y m)) ∧ w = w' := by
  by_cases h1 : n ≤ 0
  · have d1 : decide (n ≤ 0) = true := decide_eq_true h1
    have H1 := Lib.hid h1; clear h1
    go_enter Try.func35, Try.ntmps35
    go_wp2_with fail
    go_ret
    exact ⟨ret_bool (by simp [freeS, H1.out]), rfl⟩
  have d1 : decide (n ≤ 0) = false := decide_eq_false h1
  by_cases h2 : m ≤ 0
  · have d2 : decide (m ≤ 0) = true := decide_eq_true h2
    have H2 := Lib.hid h2; clear h2
    go_enter Try.func35, Try.ntmps35
    go_wp2_with fail
    go_ret
    exact ⟨ret_bool (by simp [freeS, H2.out]), rfl⟩
  have d2 : decide (m ≤ 0) = false := decide_eq_false h2
  have hb1 := Lib.hid (behind_any x n y w hx hy ⟨by omega, hn.2⟩)
  have hb2 := Lib.hid (behind_any y m x w hy hx ⟨by omega, hm.2⟩)
  have H1 := Lib.hid h1; clear h1
  have H2 := Lib.hid h2; clear h2
  go_enter Try.func35, Try.ntmps35
  go_wp2_with fail
  refine hb1.out.mono ?_
  rintro e w' ⟨rfl, rfl⟩
  cases h3 : decide (x + n ≤ y) with
  | true =>
    have H3 := Lib.hid h3; clear h3
    go_wp2_with fail
    go_ret
    exact ⟨ret_bool (by simp only [freeS, H3.out, Bool.or_true, Bool.true_or]), rfl⟩
  | false =>
    have H3 := Lib.hid h3; clear h3
    go_wp2_with fail
    refine hb2.out.mono ?_
    rintro e w' ⟨rfl, rfl⟩
    go_wp2_with fail
    go_ret
    exact ⟨ret_bool (by simp only [freeS, H3.out, d1, d2, Bool.false_or]), rfl⟩

theorem apart_any (a b : Rc) (w : World) (ha : a.b) (hb : b.b) :
    Calls Try.prog 21 #[rcV a, rcV b] w fun e w' => e = .returned (.bool (apartS a b)) ∧ Below w.heap.size w w' := by
  obtain ⟨ax, ay, aw, ah⟩ := a
  obtain ⟨bx, by', bw, bh⟩ := b
  obtain ⟨a1, a2, a3, a4⟩ := ha
  obtain ⟨b1, b2, b3, b4⟩ := hb
  simp only at a1 a2 a3 a4 b1 b2 b3 b4
  have hf1 := Lib.hid (fun W => free_any ax aw bx bw W a1 a3 b1 b3)
  have hf2 := Lib.hid (fun W => free_any ay ah by' bh W a2 a4 b2 b4)
  have hbel : Below w.heap.size w ((w.alloc (.cells #[.int .i64 ax, .int .i64 ay, .int .i64 aw, .int .i64 ah] 24)).alloc (.cells #[.int .i64 bx, .int .i64 by', .int .i64 bw, .int .i64 bh] 24)) :=
    ((Below.refl _ _).alloc (Nat.le_refl _) _).alloc (by simp) _
  unfold rcV
  go_enter Try.func21, Try.ntmps21
  go_wp2_with fail
  refine (hf1.out _).mono ?_
  rintro e w' ⟨rfl, rfl⟩
  cases h : freeS ax aw bx bw with
  | true =>
    have H := Lib.hid h; clear h
    go_wp2_with fail
    go_ret
    exact ⟨ret_bool (by simp only [apartS, H.out, Bool.true_or]), hbel⟩
  | false =>
    have H := Lib.hid h; clear h
    go_wp2_with fail
    refine (hf2.out _).mono ?_
    rintro e w' ⟨rfl, rfl⟩
    go_wp2_with fail
    go_ret
    exact ⟨ret_bool (by simp only [apartS, H.out, Bool.false_or]), hbel⟩

/-- four cells of a rectangle at an address -/
def RcAt (w : World) (a : Nat) (r : Rc) : Prop := ∀ j, w.cell? ⟨a, j, none⟩ = (cells4 r)[j]?
theorem RcAt.new (w : World) (r : Rc) (t : TypeId) : RcAt (w.alloc (.cells #[.int .i64 r.x, .int .i64 r.y, .int .i64 r.w, .int .i64 r.h] t)) w.heap.size r := fun j => by
  rw [World.cell?_alloc_new]; simp [cells4]
theorem RcAt.below {w w' : World} {a : Nat} {r : Rc} (h : RcAt w a r) {B : Nat} (hb : Below B w w') (ha : a < B) : RcAt w' a r := fun j => (hb.cell (p := ⟨a, j, none⟩) ha).trans (h j)

theorem notApart_any (o r : Rc) (g : Nat) (w : World) (ho : o.b) (hr : r.b) (hg : RcAt w g r) (hlt : g < w.heap.size) :
    Calls Try.prog 33 #[rcV o, .pointer (some ⟨g, 0, none⟩)] w fun e w' => e = .returned (.bool (!apartS o r)) ∧ Below w.heap.size w w' := by
  have hap := Lib.hid (fun W => apart_any o r W ho hr)
  obtain ⟨ox, oy, ow, oh⟩ := o
  obtain ⟨rx, ry, rw', rh⟩ := r
  have c0 := hg 0
  have c1 := hg 1
  have c2 := hg 2
  have c3 := hg 3
  simp [cells4] at c0 c1 c2 c3
  unfold rcV at *
  go_enter Try.func33, Try.ntmps33
  go_wp2_with fail
  refine (hap.out _).mono ?_
  rintro e w' ⟨rfl, hb⟩
  go_wp2_with fail
  go_ret
  exact ⟨rfl, ((Below.refl _ _).alloc (Nat.le_refl _) _).trans (hb.mono (by simp))⟩

theorem idxR_any (B F : Nat) (f : Rc → Bool) (cap : Value) (w : World)
    (hf : ∀ (r : Rc) (W : World), r.b → Below w.heap.size w W → Calls Try.prog F #[rcV r, cap] W fun e w' => e = .returned (.bool (f r)) ∧ Below W.heap.size W w')
    (hF : ∀ (args : Array Value) (W : World), Sem.run Try.prog (callFunc F args) W = .ok (.enter F args) W) (A : Option Addr) (n c : Nat) (l : List Rc) (h : Rects w B A n l) (hB : B ≤ w.heap.size) :
    Calls Try.prog 42 #[.slice A n c, .func (.func F) #[] #[cap]] w fun e w' => IdxRes (l.any f) e ∧ Below w.heap.size w w' := by
  have hn := h.len
  have HF := Lib.hid hf; clear hf
  go_enter Try.func42, Try.ntmps42
  go_wp2_with fail
  go_loopw [8] (fun i wr => ∃ k : Nat, k ≤ n ∧ i = .int .i64 k ∧ Hid ((l.take k).any f = false) ∧ Below w.heap.size w wr) (fun i _ => n - (intOf i).toNat)
  case atStart => exact ⟨0, Nat.zero_le _, rfl, rfl, Below.refl _ _⟩
  case round =>
    obtain ⟨k, hk, rfl, hany, hbel⟩ := hrel
    by_cases hlt : k < n
    · obtain ⟨ad, p, rfl, hb, hx, hm, hpb, hc0, hc1, hc2, hc3⟩ := (h.below hbel hB).get hlt
      have HX := Lib.hid hx; clear hx
      go_wp2_with fail
      refine (HF.out p _ hpb hbel).mono ?_
      rintro e w' ⟨rfl, hb'⟩
      have hbel' := hbel.trans (hb'.mono hbel.size)
      cases hfx : f p with
      | true =>
        have HFX := Lib.hid hfx; clear hfx
        go_wp2_with fail
        go_ret
        exact ⟨.yes (any_true hm HFX.out) (by omega), hbel'⟩
      | false =>
        have HFX := Lib.hid hfx; clear hfx
        go_wp2_with fail
        go_roundw
        case rel => exact ⟨k + 1, by omega, by go_num, by
          refine Lib.hid ?_
          rw [take_snoc' _ _ _ HX.out, List.any_append, hany.out]
          simp [HFX.out], hbel'⟩
        case measure => simp [intOf]; omega
    · go_wp2_with fail
      go_ret
      refine ⟨.no ?_, hbel⟩
      have := hany.out
      rw [List.take_of_length_le (by rw [h.length]; omega)] at this
      exact this

theorem containsR_any (B F : Nat) (f : Rc → Bool) (cap : Value) (w : World)
    (hf : ∀ (r : Rc) (W : World), r.b → Below w.heap.size w W → Calls Try.prog F #[rcV r, cap] W fun e w' => e = .returned (.bool (f r)) ∧ Below W.heap.size W w')
    (hF : ∀ (args : Array Value) (W : World), Sem.run Try.prog (callFunc F args) W = .ok (.enter F args) W) (A : Option Addr) (n c : Nat) (l : List Rc) (h : Rects w B A n l) (hB : B ≤ w.heap.size) :
    Calls Try.prog 32 #[.slice A n c, .func (.func F) #[] #[cap]] w fun e w' => e = .returned (.bool (l.any f)) ∧ Below w.heap.size w w' := by
  have hi := Lib.hid (idxR_any B F f cap w hf hF A n c l h hB)
  clear hf
  go_enter Try.func32, Try.ntmps32
  go_wp2_with fail
  refine hi.out.mono ?_
  rintro e w' ⟨⟨r, rfl, h1, h2, hr⟩, hb⟩
  have HR := Lib.hid hr; clear hr
  go_wp2_with fail
  go_ret
  exact ⟨ret_bool HR.out, hb⟩
end Go.Proofs.Ytneoacbacflehaa
