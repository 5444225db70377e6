/-
  THE WALKS OF limewashref29's Same and Big.
-/
import Derived.Test.YtfkkppagbhllgaaTgaWalkR
set_option linter.unusedVariables false
set_option linter.unusedSimpArgs false
set_option maxRecDepth 100000
namespace Go.Proofs.Ytfkkppagbhllgaa
open Go.RowKit

theorem Byts.whole {w : World} {B n : Nat} {A : Option Addr} {l : List UInt8} (h : Byts w B A n l) (cap : Nat) :
    (convert 22 9 (.slice A n cap)).run Try.prog w = .ok (.string ⟨l.toArray⟩) w := by
  cases A with
  | none =>
    have h0 : n = 0 := by
      rcases Nat.eq_zero_or_pos n with h0 | h0
      · exact h0
      · obtain ⟨ad, e, _⟩ := h.rd.2 h0; cases e
    have hl := h.length
    have : l = [] := List.eq_nil_of_length_eq_zero (by omega)
    subst this
    exact run_convert_bytes_nil (P := Try.prog) w 22 5 Try.underlying22 Try.underlying5 n cap 9 Try.underlying9
  | some ad =>
    have hl := h.length
    have := run_convert_bytes_back (P := Try.prog) w 22 9 5 ad cap l Try.underlying22 Try.underlying5 Try.underlying9 fun j hj => by
      obtain ⟨ad', e, _, hc⟩ := h.rd.2 (by omega)
      cases e
      exact hc j _ (by simp [Lib.byteCells, List.getElem?_eq_getElem hj])
    rwa [hl] at this

theorem big_any (p q b : Int) (A : Option Addr) (n c : Nat) (w : World) :
    Calls Try.prog 9 #[imV p q b A n c] w fun e w' => e = .returned (.bool (decide (600 < (n : Int)))) ∧ Below w.heap.size w w' := by
  have hb : Below w.heap.size w (w.alloc (.cells #[.int .i64 p, .int .i64 q, .int .i64 b, .slice A n c] 24)) := (Below.refl _ _).alloc (Nat.le_refl _) _
  unfold imV
  go_enter Try.func9, Try.ntmps9
  go_wp2_with fail
  go_ret
  exact ⟨rfl, hb⟩

set_option maxHeartbeats 800000 in
theorem same_im (B : Nat) (p q b : Int) (A : Option Addr) (n c : Nat) (d : List UInt8) (p' q' b' : Int) (A' : Option Addr) (n' c' : Nat) (d' : List UInt8) (w : World)
    (h : Byts w B A n d) (h' : Byts w B A' n' d') (hB : B ≤ w.heap.size) :
    Calls Try.prog 21 #[imV p q b A n c, imV p' q' b' A' n' c'] w fun e w' => e = .returned (.bool (p == p' && (q == q' && (b == b' && d == d')))) ∧ Below w.heap.size w w' := by
  have hb : Below w.heap.size w ((w.alloc (.cells #[.int .i64 p, .int .i64 q, .int .i64 b, .slice A n c] 24)).alloc (.cells #[.int .i64 p', .int .i64 q', .int .i64 b', .slice A' n' c'] 24)) := ((Below.refl _ _).alloc (Nat.le_refl _) _).alloc (by simp) _
  have t1 := (h.below hb hB).whole c
  have t2 := (h'.below hb hB).whole c'
  have HB := Lib.hid hb
  unfold imV
  clear hb h h'
  cases h1 : (p == p') with
  | false =>
    clear t1 t2
    go_enter Try.func21, Try.ntmps21
    go_wp2_with fail
    go_ret
    exact ⟨rfl, HB.out⟩
  | true =>
    cases h2 : (q == q') with
    | false =>
      clear t1 t2
      go_enter Try.func21, Try.ntmps21
      go_wp2_with fail
      go_ret
      exact ⟨rfl, HB.out⟩
    | true =>
      cases h3 : (b == b') with
      | false =>
        clear t1 t2
        go_enter Try.func21, Try.ntmps21
        go_wp2_with fail
        go_ret
        exact ⟨rfl, HB.out⟩
      | true =>
        go_enter Try.func21, Try.ntmps21
        go_wp2_with fail
        go_ret
        exact ⟨by simp, HB.out⟩
end Go.Proofs.Ytfkkppagbhllgaa
