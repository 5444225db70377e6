/-
  THE WALK OF limewashref29.take.
-/
import Derived.Test.YtfkkppagbhllgaaGz3
set_option linter.unusedVariables false
set_option linter.unusedSimpArgs false
set_option maxRecDepth 100000
namespace Go.Proofs.Ytfkkppagbhllgaa
open Go.RowKit

/-- what take hands back -/
def TkRes (packed : Bool) (z n : Nat) (s : List UInt8) (w : World) (e : Ending) (w' : World) : Prop := Below w.heap.size w w' ∧
  ((takeRow packed z n s = none ∧ ∃ t k, e = .returned (.tuple #[.string ⟨t⟩, .int .i64 k, .bool false])) ∨
   (∃ o, takeRow packed z n s = some o ∧ e = .returned (.tuple #[.string ⟨o.1.toArray⟩, .int .i64 ((s.length : Int) - (o.2.length : Int)), .bool true])))
set_option maxHeartbeats 800000 in
theorem takeref_any (packed : Bool) (z n : Nat) (s : List UInt8) (w : World) (hz : z = 3 ∨ z = 4) (hn : n ≤ 256) (hl : s.length ≤ 1000000) :
    Calls Try.prog 49 #[.string ⟨s.toArray⟩, .int .i64 (z : Int), .int .i64 (n : Int), .bool packed] w (TkRes packed z n s w) := by
  have F0 : Hid (∀ t k W, takeRow packed z n s = none → Below w.heap.size w W → TkRes packed z n s w (.returned (.tuple #[.string ⟨t⟩, .int .i64 k, .bool false])) W) := Lib.hid fun t k W h hb => ⟨hb, .inl ⟨h, t, k, rfl⟩⟩
  have F1 : Hid (∀ o W, takeRow packed z n s = some o → Below w.heap.size w W → TkRes packed z n s w (.returned (.tuple #[.string ⟨o.1.toArray⟩, .int .i64 ((s.length : Int) - (o.2.length : Int)), .bool true])) W) := Lib.hid fun o W h hb => ⟨hb, .inr ⟨o, h, rfl⟩⟩
  generalize hQ : TkRes packed z n s w = Qp at F0 F1 ⊢
  clear hQ
  cases packed with
  | true =>
    have KU := Lib.hid (fun W => unref_any s z n W hl)
    have hok : unOk (z : Int) (n : Int) = true := by unfold unOk; rw [decide_eq_true_iff]; omega
    unfold UnpRes unR at KU
    rw [hok] at KU
    simp only [if_true, Int.toNat_natCast] at KU
    cases hu : unpackT z n s with
    | none =>
      have HN : Hid (takeRow true z n s = none) := Lib.hid (by unfold takeRow; rw [if_pos rfl, hu])
      rw [hu] at KU
      unfold strV at KU
      clear hu hok hz hn hl
      go_enter Try.func49, Try.ntmps49
      go_wp2_with fail
      refine (KU.out _).mono ?_
      clear KU
      rintro e w1 ⟨rfl, hb1⟩
      have HB := Lib.hid hb1
      clear hb1
      go_wp2_with fail
      go_ret3
      exact F0.out _ _ _ HN.out HB.out
    | some o =>
      have HN : Hid (takeRow true z n s = some o) := Lib.hid (by unfold takeRow; rw [if_pos rfl, hu])
      rw [hu] at KU
      unfold strV at KU
      clear hu hok hz hn hl
      go_enter Try.func49, Try.ntmps49
      go_wp2_with fail
      refine (KU.out _).mono ?_
      clear KU
      rintro e w1 ⟨rfl, hb1⟩
      have HB := Lib.hid hb1
      clear hb1
      go_wp2_with fail
      go_ret3
      exact F1.out o _ HN.out HB.out
  | false =>
    obtain ⟨N, hN⟩ : ∃ N, N = z * n := ⟨_, rfl⟩
    have hzn : z * n ≤ 4 * 256 := Nat.mul_le_mul (by omega) hn
    have e1 : (z : Int) * (n : Int) = (N : Int) := by rw [hN]; simp
    have hN9 : N ≤ 1024 := by omega
    have wN : IntKind.i64.wrap (N : Int) = (N : Int) := by rw [IntKind.wrap_i64]; omega
    by_cases hs : s.length < N
    · have t0 : decide ((s.length : Int) < (N : Int)) = true := decide_eq_true (by omega)
      have t0n : decide (s.length < N) = true := decide_eq_true (by omega)
      have HN : Hid (takeRow false z n s = none) := Lib.hid (by unfold takeRow; rw [if_neg (by simp), ← hN, if_pos hs])
      clear hzn hN hz hn hs hl
      go_enter Try.func49, Try.ntmps49
      go_wp2_with fail
      go_ret3
      exact F0.out _ _ _ HN.out (Below.refl _ _)
    · have t0 : decide ((s.length : Int) < (N : Int)) = false := decide_eq_false (by omega)
      have t0n : decide (s.length < N) = false := decide_eq_false (by omega)
      have HN : Hid (takeRow false z n s = some (s.take N, s.drop N)) := Lib.hid (by unfold takeRow; rw [if_neg (by simp), ← hN, if_neg hs])
      have HS := run_sl_to (P := Try.prog) 9 s (N : Int) N rfl (by omega) Try.underlying9
      have HF := Lib.hid (F1.out _ w HN.out (Below.refl _ _))
      rw [show ((s.length : Int) - ((s.take N, s.drop N).2.length : Int)) = (N : Int) by simp; omega] at HF
      clear hzn hN hz hn hs hl
      go_enter Try.func49, Try.ntmps49
      go_wp2_with fail
      go_ret3
      exact HF.out
end Go.Proofs.Ytfkkppagbhllgaa

/-
  THE WALKS OF limewashref29's head, Is and Own.
-/
set_option linter.unusedVariables false
set_option linter.unusedSimpArgs false
set_option maxRecDepth 100000
namespace Go.Proofs.Ytfkkppagbhllgaa
open Go.RowKit

set_option maxHeartbeats 800000 in
theorem headref_any (p q z : Nat) (A : Option Addr) (n c : Nat) (packed top : Bool) (w : World) (h1 : p ≤ 256) (h2 : q ≤ 256) (hz : z = 3 ∨ z = 4) :
    Calls Try.prog 35 #[imV p q ((8 * z : Nat) : Int) A n c, .bool packed, .bool top] w (SR w (headT p q z packed top)) := by
  unfold imV SR
  have hb : Below w.heap.size w (w.alloc (.cells #[.int .i64 (p : Int), .int .i64 (q : Int), .int .i64 ((8 * z : Nat) : Int), .slice A n c] 24)) := (Below.refl _ _).alloc (Nat.le_refl _) _
  have hbx := SlotN.new w [.int .i64 (p : Int), .int .i64 (q : Int), .int .i64 ((8 * z : Nat) : Int), .slice A n c] #[.int .i64 (p : Int), .int .i64 (q : Int), .int .i64 ((8 * z : Nat) : Int), .slice A n c] 24 rfl
  have hz1 : (w.alloc (.cells #[.int .i64 (p : Int), .int .i64 (q : Int), .int .i64 ((8 * z : Nat) : Int), .slice A n c] 24)).heap.size = w.heap.size + 1 := by simp
  have HZ1 := Lib.hid hz1
  have HB := Lib.hid hb
  have m0 := hbx.c 0 _ rfl
  have m1 := hbx.c 1 _ rfl
  have m2 := hbx.c 2 _ rfl
  obtain ⟨p0, hp0⟩ : ∃ x, x = p % 256 := ⟨_, rfl⟩
  obtain ⟨p1, hp1⟩ : ∃ x, x = p / 256 := ⟨_, rfl⟩
  obtain ⟨q0, hq0⟩ : ∃ x, x = q % 256 := ⟨_, rfl⟩
  obtain ⟨q1, hq1⟩ : ∃ x, x = q / 256 := ⟨_, rfl⟩
  have tp0 : (p : Int).tmod 256 = (p0 : Int) := by rw [Int.tmod_eq_emod_of_nonneg (by omega)]; omega
  have tp1 : (p : Int).tdiv 256 = (p1 : Int) := by rw [Int.tdiv_eq_ediv_of_nonneg (by omega)]; omega
  have tq0 : (q : Int).tmod 256 = (q0 : Int) := by rw [Int.tmod_eq_emod_of_nonneg (by omega)]; omega
  have tq1 : (q : Int).tdiv 256 = (q1 : Int) := by rw [Int.tdiv_eq_ediv_of_nonneg (by omega)]; omega
  have bp0 : p0 < 256 := by omega
  have bp1 : p1 < 256 := by omega
  have bq0 : q0 < 256 := by omega
  have bq1 : q1 < 256 := by omega
  have HP := Lib.hid (⟨hp0, hp1, hq0, hq1⟩ : _ ∧ _ ∧ _ ∧ _)
  have wp0 : IntKind.i64.wrap (p0 : Int) = (p0 : Int) := by rw [IntKind.wrap_i64]; omega
  have wp1 : IntKind.i64.wrap (p1 : Int) = (p1 : Int) := by rw [IntKind.wrap_i64]; omega
  have wq0 : IntKind.i64.wrap (q0 : Int) = (q0 : Int) := by rw [IntKind.wrap_i64]; omega
  have wq1 : IntKind.i64.wrap (q1 : Int) = (q1 : Int) := by rw [IntKind.wrap_i64]; omega
  have up0 : IntKind.u8.wrap (p0 : Int) = (p0 : Int) := by rw [IntKind.wrap_u8]; omega
  have up1 : IntKind.u8.wrap (p1 : Int) = (p1 : Int) := by rw [IntKind.wrap_u8]; omega
  have uq0 : IntKind.u8.wrap (q0 : Int) = (q0 : Int) := by rw [IntKind.wrap_u8]; omega
  have uq1 : IntKind.u8.wrap (q1 : Int) = (q1 : Int) := by rw [IntKind.wrap_u8]; omega
  clear hp0 hp1 hq0 hq1 hbx hb h1 h2
  rcases hz with rfl | rfl
  · rw [show ((8 * 3 : Nat) : Int) = 24 from rfl] at *
    have u1 : IntKind.u8.wrap 24 = 24 := rfl
    cases packed
    · cases top
      · go_enter Try.func35, Try.ntmps35
        have s2 := SlotN.new (w.alloc (.cells #[.int .i64 (p : Int), .int .i64 (q : Int), .int .i64 24, .slice A n c] 24)) [.int .u8 0, .int .u8 0, .int .u8 2, .int .u8 0, .int .u8 0, .int .u8 0, .int .u8 0, .int .u8 0, .int .u8 0, .int .u8 0, .int .u8 0, .int .u8 0, .int .u8 (p0 : Int), .int .u8 (p1 : Int), .int .u8 (q0 : Int), .int .u8 (q1 : Int), .int .u8 24, .int .u8 0] #[.int .u8 0, .int .u8 0, .int .u8 2, .int .u8 0, .int .u8 0, .int .u8 0, .int .u8 0, .int .u8 0, .int .u8 0, .int .u8 0, .int .u8 0, .int .u8 0, .int .u8 (p0 : Int), .int .u8 (p1 : Int), .int .u8 (q0 : Int), .int .u8 (q1 : Int), .int .u8 24, .int .u8 0] 5 rfl
        have kc := head_text _ _ _ s2 (headT p q 3 false false) (by
          unfold headT Lib.byteCells
          obtain ⟨e1, e2, e3, e4⟩ := HP.out
          rw [← e1, ← e2, ← e3, ← e4]
          simp only [List.map_cons, List.map_nil, u8_of p0 (by omega), u8_of p1 (by omega), u8_of q0 (by omega), u8_of q1 (by omega)]
          rfl) rfl
        have hb2 := Lib.hid (HB.out.alloc HB.out.size (.cells #[.int .u8 0, .int .u8 0, .int .u8 2, .int .u8 0, .int .u8 0, .int .u8 0, .int .u8 0, .int .u8 0, .int .u8 0, .int .u8 0, .int .u8 0, .int .u8 0, .int .u8 (p0 : Int), .int .u8 (p1 : Int), .int .u8 (q0 : Int), .int .u8 (q1 : Int), .int .u8 24, .int .u8 0] 5))
        rw [HZ1.out] at kc
        clear s2
        go_wp2_with fail
        go_ret
        exact ⟨rfl, hb2.out⟩
      · go_enter Try.func35, Try.ntmps35
        have s2 := SlotN.new (w.alloc (.cells #[.int .i64 (p : Int), .int .i64 (q : Int), .int .i64 24, .slice A n c] 24)) [.int .u8 0, .int .u8 0, .int .u8 2, .int .u8 0, .int .u8 0, .int .u8 0, .int .u8 0, .int .u8 0, .int .u8 0, .int .u8 0, .int .u8 0, .int .u8 0, .int .u8 (p0 : Int), .int .u8 (p1 : Int), .int .u8 (q0 : Int), .int .u8 (q1 : Int), .int .u8 24, .int .u8 32] #[.int .u8 0, .int .u8 0, .int .u8 2, .int .u8 0, .int .u8 0, .int .u8 0, .int .u8 0, .int .u8 0, .int .u8 0, .int .u8 0, .int .u8 0, .int .u8 0, .int .u8 (p0 : Int), .int .u8 (p1 : Int), .int .u8 (q0 : Int), .int .u8 (q1 : Int), .int .u8 24, .int .u8 32] 5 rfl
        have kc := head_text _ _ _ s2 (headT p q 3 false true) (by
          unfold headT Lib.byteCells
          obtain ⟨e1, e2, e3, e4⟩ := HP.out
          rw [← e1, ← e2, ← e3, ← e4]
          simp only [List.map_cons, List.map_nil, u8_of p0 (by omega), u8_of p1 (by omega), u8_of q0 (by omega), u8_of q1 (by omega)]
          rfl) rfl
        have hb2 := Lib.hid (HB.out.alloc HB.out.size (.cells #[.int .u8 0, .int .u8 0, .int .u8 2, .int .u8 0, .int .u8 0, .int .u8 0, .int .u8 0, .int .u8 0, .int .u8 0, .int .u8 0, .int .u8 0, .int .u8 0, .int .u8 (p0 : Int), .int .u8 (p1 : Int), .int .u8 (q0 : Int), .int .u8 (q1 : Int), .int .u8 24, .int .u8 32] 5))
        rw [HZ1.out] at kc
        clear s2
        go_wp2_with fail
        go_ret
        exact ⟨rfl, hb2.out⟩
    · cases top
      · go_enter Try.func35, Try.ntmps35
        have s2 := SlotN.new (w.alloc (.cells #[.int .i64 (p : Int), .int .i64 (q : Int), .int .i64 24, .slice A n c] 24)) [.int .u8 0, .int .u8 0, .int .u8 10, .int .u8 0, .int .u8 0, .int .u8 0, .int .u8 0, .int .u8 0, .int .u8 0, .int .u8 0, .int .u8 0, .int .u8 0, .int .u8 (p0 : Int), .int .u8 (p1 : Int), .int .u8 (q0 : Int), .int .u8 (q1 : Int), .int .u8 24, .int .u8 0] #[.int .u8 0, .int .u8 0, .int .u8 10, .int .u8 0, .int .u8 0, .int .u8 0, .int .u8 0, .int .u8 0, .int .u8 0, .int .u8 0, .int .u8 0, .int .u8 0, .int .u8 (p0 : Int), .int .u8 (p1 : Int), .int .u8 (q0 : Int), .int .u8 (q1 : Int), .int .u8 24, .int .u8 0] 5 rfl
        have kc := head_text _ _ _ s2 (headT p q 3 true false) (by
          unfold headT Lib.byteCells
          obtain ⟨e1, e2, e3, e4⟩ := HP.out
          rw [← e1, ← e2, ← e3, ← e4]
          simp only [List.map_cons, List.map_nil, u8_of p0 (by omega), u8_of p1 (by omega), u8_of q0 (by omega), u8_of q1 (by omega)]
          rfl) rfl
        have hb2 := Lib.hid (HB.out.alloc HB.out.size (.cells #[.int .u8 0, .int .u8 0, .int .u8 10, .int .u8 0, .int .u8 0, .int .u8 0, .int .u8 0, .int .u8 0, .int .u8 0, .int .u8 0, .int .u8 0, .int .u8 0, .int .u8 (p0 : Int), .int .u8 (p1 : Int), .int .u8 (q0 : Int), .int .u8 (q1 : Int), .int .u8 24, .int .u8 0] 5))
        rw [HZ1.out] at kc
        clear s2
        go_wp2_with fail
        go_ret
        exact ⟨rfl, hb2.out⟩
      · go_enter Try.func35, Try.ntmps35
        have s2 := SlotN.new (w.alloc (.cells #[.int .i64 (p : Int), .int .i64 (q : Int), .int .i64 24, .slice A n c] 24)) [.int .u8 0, .int .u8 0, .int .u8 10, .int .u8 0, .int .u8 0, .int .u8 0, .int .u8 0, .int .u8 0, .int .u8 0, .int .u8 0, .int .u8 0, .int .u8 0, .int .u8 (p0 : Int), .int .u8 (p1 : Int), .int .u8 (q0 : Int), .int .u8 (q1 : Int), .int .u8 24, .int .u8 32] #[.int .u8 0, .int .u8 0, .int .u8 10, .int .u8 0, .int .u8 0, .int .u8 0, .int .u8 0, .int .u8 0, .int .u8 0, .int .u8 0, .int .u8 0, .int .u8 0, .int .u8 (p0 : Int), .int .u8 (p1 : Int), .int .u8 (q0 : Int), .int .u8 (q1 : Int), .int .u8 24, .int .u8 32] 5 rfl
        have kc := head_text _ _ _ s2 (headT p q 3 true true) (by
          unfold headT Lib.byteCells
          obtain ⟨e1, e2, e3, e4⟩ := HP.out
          rw [← e1, ← e2, ← e3, ← e4]
          simp only [List.map_cons, List.map_nil, u8_of p0 (by omega), u8_of p1 (by omega), u8_of q0 (by omega), u8_of q1 (by omega)]
          rfl) rfl
        have hb2 := Lib.hid (HB.out.alloc HB.out.size (.cells #[.int .u8 0, .int .u8 0, .int .u8 10, .int .u8 0, .int .u8 0, .int .u8 0, .int .u8 0, .int .u8 0, .int .u8 0, .int .u8 0, .int .u8 0, .int .u8 0, .int .u8 (p0 : Int), .int .u8 (p1 : Int), .int .u8 (q0 : Int), .int .u8 (q1 : Int), .int .u8 24, .int .u8 32] 5))
        rw [HZ1.out] at kc
        clear s2
        go_wp2_with fail
        go_ret
        exact ⟨rfl, hb2.out⟩
  · rw [show ((8 * 4 : Nat) : Int) = 32 from rfl] at *
    have u1 : IntKind.u8.wrap 32 = 32 := rfl
    cases packed
    · cases top
      · go_enter Try.func35, Try.ntmps35
        have s2 := SlotN.new (w.alloc (.cells #[.int .i64 (p : Int), .int .i64 (q : Int), .int .i64 32, .slice A n c] 24)) [.int .u8 0, .int .u8 0, .int .u8 2, .int .u8 0, .int .u8 0, .int .u8 0, .int .u8 0, .int .u8 0, .int .u8 0, .int .u8 0, .int .u8 0, .int .u8 0, .int .u8 (p0 : Int), .int .u8 (p1 : Int), .int .u8 (q0 : Int), .int .u8 (q1 : Int), .int .u8 32, .int .u8 8] #[.int .u8 0, .int .u8 0, .int .u8 2, .int .u8 0, .int .u8 0, .int .u8 0, .int .u8 0, .int .u8 0, .int .u8 0, .int .u8 0, .int .u8 0, .int .u8 0, .int .u8 (p0 : Int), .int .u8 (p1 : Int), .int .u8 (q0 : Int), .int .u8 (q1 : Int), .int .u8 32, .int .u8 8] 5 rfl
        have kc := head_text _ _ _ s2 (headT p q 4 false false) (by
          unfold headT Lib.byteCells
          obtain ⟨e1, e2, e3, e4⟩ := HP.out
          rw [← e1, ← e2, ← e3, ← e4]
          simp only [List.map_cons, List.map_nil, u8_of p0 (by omega), u8_of p1 (by omega), u8_of q0 (by omega), u8_of q1 (by omega)]
          rfl) rfl
        have hb2 := Lib.hid (HB.out.alloc HB.out.size (.cells #[.int .u8 0, .int .u8 0, .int .u8 2, .int .u8 0, .int .u8 0, .int .u8 0, .int .u8 0, .int .u8 0, .int .u8 0, .int .u8 0, .int .u8 0, .int .u8 0, .int .u8 (p0 : Int), .int .u8 (p1 : Int), .int .u8 (q0 : Int), .int .u8 (q1 : Int), .int .u8 32, .int .u8 8] 5))
        rw [HZ1.out] at kc
        clear s2
        go_wp2_with fail
        go_ret
        exact ⟨rfl, hb2.out⟩
      · go_enter Try.func35, Try.ntmps35
        have s2 := SlotN.new (w.alloc (.cells #[.int .i64 (p : Int), .int .i64 (q : Int), .int .i64 32, .slice A n c] 24)) [.int .u8 0, .int .u8 0, .int .u8 2, .int .u8 0, .int .u8 0, .int .u8 0, .int .u8 0, .int .u8 0, .int .u8 0, .int .u8 0, .int .u8 0, .int .u8 0, .int .u8 (p0 : Int), .int .u8 (p1 : Int), .int .u8 (q0 : Int), .int .u8 (q1 : Int), .int .u8 32, .int .u8 40] #[.int .u8 0, .int .u8 0, .int .u8 2, .int .u8 0, .int .u8 0, .int .u8 0, .int .u8 0, .int .u8 0, .int .u8 0, .int .u8 0, .int .u8 0, .int .u8 0, .int .u8 (p0 : Int), .int .u8 (p1 : Int), .int .u8 (q0 : Int), .int .u8 (q1 : Int), .int .u8 32, .int .u8 40] 5 rfl
        have kc := head_text _ _ _ s2 (headT p q 4 false true) (by
          unfold headT Lib.byteCells
          obtain ⟨e1, e2, e3, e4⟩ := HP.out
          rw [← e1, ← e2, ← e3, ← e4]
          simp only [List.map_cons, List.map_nil, u8_of p0 (by omega), u8_of p1 (by omega), u8_of q0 (by omega), u8_of q1 (by omega)]
          rfl) rfl
        have hb2 := Lib.hid (HB.out.alloc HB.out.size (.cells #[.int .u8 0, .int .u8 0, .int .u8 2, .int .u8 0, .int .u8 0, .int .u8 0, .int .u8 0, .int .u8 0, .int .u8 0, .int .u8 0, .int .u8 0, .int .u8 0, .int .u8 (p0 : Int), .int .u8 (p1 : Int), .int .u8 (q0 : Int), .int .u8 (q1 : Int), .int .u8 32, .int .u8 40] 5))
        rw [HZ1.out] at kc
        clear s2
        go_wp2_with fail
        go_ret
        exact ⟨rfl, hb2.out⟩
    · cases top
      · go_enter Try.func35, Try.ntmps35
        have s2 := SlotN.new (w.alloc (.cells #[.int .i64 (p : Int), .int .i64 (q : Int), .int .i64 32, .slice A n c] 24)) [.int .u8 0, .int .u8 0, .int .u8 10, .int .u8 0, .int .u8 0, .int .u8 0, .int .u8 0, .int .u8 0, .int .u8 0, .int .u8 0, .int .u8 0, .int .u8 0, .int .u8 (p0 : Int), .int .u8 (p1 : Int), .int .u8 (q0 : Int), .int .u8 (q1 : Int), .int .u8 32, .int .u8 8] #[.int .u8 0, .int .u8 0, .int .u8 10, .int .u8 0, .int .u8 0, .int .u8 0, .int .u8 0, .int .u8 0, .int .u8 0, .int .u8 0, .int .u8 0, .int .u8 0, .int .u8 (p0 : Int), .int .u8 (p1 : Int), .int .u8 (q0 : Int), .int .u8 (q1 : Int), .int .u8 32, .int .u8 8] 5 rfl
        have kc := head_text _ _ _ s2 (headT p q 4 true false) (by
          unfold headT Lib.byteCells
          obtain ⟨e1, e2, e3, e4⟩ := HP.out
          rw [← e1, ← e2, ← e3, ← e4]
          simp only [List.map_cons, List.map_nil, u8_of p0 (by omega), u8_of p1 (by omega), u8_of q0 (by omega), u8_of q1 (by omega)]
          rfl) rfl
        have hb2 := Lib.hid (HB.out.alloc HB.out.size (.cells #[.int .u8 0, .int .u8 0, .int .u8 10, .int .u8 0, .int .u8 0, .int .u8 0, .int .u8 0, .int .u8 0, .int .u8 0, .int .u8 0, .int .u8 0, .int .u8 0, .int .u8 (p0 : Int), .int .u8 (p1 : Int), .int .u8 (q0 : Int), .int .u8 (q1 : Int), .int .u8 32, .int .u8 8] 5))
        rw [HZ1.out] at kc
        clear s2
        go_wp2_with fail
        go_ret
        exact ⟨rfl, hb2.out⟩
      · go_enter Try.func35, Try.ntmps35
        have s2 := SlotN.new (w.alloc (.cells #[.int .i64 (p : Int), .int .i64 (q : Int), .int .i64 32, .slice A n c] 24)) [.int .u8 0, .int .u8 0, .int .u8 10, .int .u8 0, .int .u8 0, .int .u8 0, .int .u8 0, .int .u8 0, .int .u8 0, .int .u8 0, .int .u8 0, .int .u8 0, .int .u8 (p0 : Int), .int .u8 (p1 : Int), .int .u8 (q0 : Int), .int .u8 (q1 : Int), .int .u8 32, .int .u8 40] #[.int .u8 0, .int .u8 0, .int .u8 10, .int .u8 0, .int .u8 0, .int .u8 0, .int .u8 0, .int .u8 0, .int .u8 0, .int .u8 0, .int .u8 0, .int .u8 0, .int .u8 (p0 : Int), .int .u8 (p1 : Int), .int .u8 (q0 : Int), .int .u8 (q1 : Int), .int .u8 32, .int .u8 40] 5 rfl
        have kc := head_text _ _ _ s2 (headT p q 4 true true) (by
          unfold headT Lib.byteCells
          obtain ⟨e1, e2, e3, e4⟩ := HP.out
          rw [← e1, ← e2, ← e3, ← e4]
          simp only [List.map_cons, List.map_nil, u8_of p0 (by omega), u8_of p1 (by omega), u8_of q0 (by omega), u8_of q1 (by omega)]
          rfl) rfl
        have hb2 := Lib.hid (HB.out.alloc HB.out.size (.cells #[.int .u8 0, .int .u8 0, .int .u8 10, .int .u8 0, .int .u8 0, .int .u8 0, .int .u8 0, .int .u8 0, .int .u8 0, .int .u8 0, .int .u8 0, .int .u8 0, .int .u8 (p0 : Int), .int .u8 (p1 : Int), .int .u8 (q0 : Int), .int .u8 (q1 : Int), .int .u8 32, .int .u8 40] 5))
        rw [HZ1.out] at kc
        clear s2
        go_wp2_with fail
        go_ret
        exact ⟨rfl, hb2.out⟩
end Go.Proofs.Ytfkkppagbhllgaa

/-
  THE WALK OF limewashref29.turned.
-/
set_option linter.unusedVariables false
set_option linter.unusedSimpArgs false
set_option maxRecDepth 100000
namespace Go.Proofs.Ytfkkppagbhllgaa
open Go.RowKit

set_option maxHeartbeats 1600000 in
theorem turnref_any (z m : Nat) (s : List UInt8) (w : World) (hz : z = 3 ∨ z = 4) (hl : s.length ≤ 1000000) (hm : s.length = m * z) (hm0 : 0 < m) :
    Calls Try.prog 50 #[.string ⟨s.toArray⟩, .int .i64 (z : Int)] w (SR w (turnedT z s)) := by
  have hz9 : 1 ≤ z ∧ z ≤ 4 := by omega
  have hz3 : 3 ≤ z := by omega
  have hT : turnedT z s = turnK z s m := by
    unfold turnedT
    rw [hm, Nat.mul_div_cancel _ (by omega)]
  rw [hT]
  have hcv := run_bytes_of_string (P := Try.prog) w 9 22 5 ⟨s.toArray⟩ Try.underlying9 Try.underlying22 Try.underlying5
  obtain ⟨n, hn⟩ : ∃ n, n = s.length := ⟨_, rfl⟩
  have hsz : (⟨s.toArray⟩ : ByteArray).size = n := hn.symm
  have hn0 : 0 < n := by rw [hn, hm]; exact Nat.mul_pos hm0 (by omega)
  rw [← hn] at hl
  obtain ⟨cap, hcap⟩ : ∃ c, c = grownCap w n 0 5 := ⟨_, rfl⟩
  have hcap2 : n ≤ cap := by rw [hcap]; exact grownCap_ge _ _ _ _
  have hcap3 : cap ≤ 9223372036854775807 := by rw [hcap]; exact grownCap_le_maxLen _ _ _ _ (by unfold maxLen; omega)
  have r0 := RowN.of_bytes w s cap (by rw [← hn]; exact hcap2) 5
  have hb0 : Below w.heap.size w (w.drew.alloc (.cells (bytesRow ⟨s.toArray⟩ cap) 5 ((bytesRow ⟨s.toArray⟩ cap).size, (bytesRow ⟨s.toArray⟩ cap).size + 1))) := (Below.refl _ _).drew.alloc (Nat.le_refl _) _
  have hz0 : (w.drew.alloc (.cells (bytesRow ⟨s.toArray⟩ cap) 5 ((bytesRow ⟨s.toArray⟩ cap).size, (bytesRow ⟨s.toArray⟩ cap).size + 1))).heap.size = w.heap.size + 1 := by simp
  rw [hsz, ← hcap] at hcv
  obtain ⟨V, hV⟩ : ∃ V, V = w.drew.alloc (.cells (bytesRow ⟨s.toArray⟩ cap) 5 ((bytesRow ⟨s.toArray⟩ cap).size, (bytesRow ⟨s.toArray⟩ cap).size + 1)) := ⟨_, rfl⟩
  rw [← hV] at hcv r0 hb0 hz0
  clear hV hcap
  have FIN : Hid (∀ w', Below w.heap.size w w' → SR w (turnK z s m) (.returned (.string ⟨(turnK z s m).toArray⟩)) w') := Lib.hid fun w' hb => ⟨rfl, hb⟩
  generalize hQ : SR w (turnK z s m) = Qp at FIN ⊢
  clear hQ
  have HN := Lib.hid hn
  have HMM : Hid (n = m * z) := Lib.hid (hn.trans hm)
  have hzV : w.heap.size < V.heap.size := by omega
  clear hn hm hsz hT hz0
  go_enter Try.func50, Try.ntmps50
  go_wp2_with fail
  go_loopw [6] (fun i wr => ∃ (k a : Nat), k ≤ m ∧ Hid (a = k * z) ∧ a ≤ n ∧ i = .int .i64 (a : Int) ∧ Hid (RowN wr w.heap.size ((turnK z s k).map UInt8.toNat)) ∧ Hid (Below w.heap.size w wr) ∧ w.heap.size < wr.heap.size) (fun i _ => n - (intOf i).toNat)
  case atStart => exact ⟨0, 0, Nat.zero_le _, Lib.hid (by simp), Nat.zero_le _, rfl, Lib.hid r0, Lib.hid hb0, hzV⟩
  case round =>
    obtain ⟨k, a, hk, hak, han, rfl, hr, hb, hzr⟩ := hrel
    clear r0 hb0 hcv hzV
    have waz : IntKind.i64.wrap ((a : Int) + (z : Int)) = (a : Int) + (z : Int) := by rw [IntKind.wrap_i64]; omega
    by_cases hkm : k < m
    · have haz : a + z ≤ n := by
        rw [hak.out, HMM.out, ← Nat.succ_mul]; exact Nat.mul_le_mul_right _ hkm
      have t0 : decide ((a : Int) + (z : Int) ≤ (n : Int)) = true := decide_eq_true (by omega)
      have t0n : decide (a + z ≤ n) = true := decide_eq_true (by omega)
      have hlf : (turnK z s k).length = n := by rw [turnK_len, HN.out]
      have hS : Hid (turnK z s (k + 1) = swapT (turnK z s k) a) := Lib.hid (by rw [turnK, hak.out])
      generalize turnK z s k = x at *
      have hml : (x.map UInt8.toNat).length = n := by simp [hlf]
      have hr0 := hr.out
      have hr1 := hr0.set a (x.getD (a + 2) 0).toNat (by omega)
      have hr2 := hr1.set (a + 2) (x.getD a 0).toNat (by simp; omega)
      rw [← swap_nat x a (by omega), ← hS.out] at hr2
      have HR2 := Lib.hid hr2
      have c0 : wr.cell? ⟨w.heap.size, a, none⟩ = some (.int .u8 ((x.getD a 0).toNat : Int)) := hr0.c _ _ (by rw [List.getElem?_map, List.getElem?_eq_getElem (by omega), List.getD_eq_getElem?_getD, List.getElem?_eq_getElem (by omega)]; rfl)
      have c2 : wr.cell? ⟨w.heap.size, a + 2, none⟩ = some (.int .u8 ((x.getD (a + 2) 0).toNat : Int)) := hr0.c _ _ (by rw [List.getElem?_map, List.getElem?_eq_getElem (by omega), List.getD_eq_getElem?_getD, List.getElem?_eq_getElem (by omega)]; rfl)
      have f0 := hr0.f a (by omega)
      have f2 := hr0.f (a + 2) (by omega)
      have w2 : IntKind.i64.wrap ((a : Int) + 2) = (a : Int) + 2 := by rw [IntKind.wrap_i64]; omega
      have i0 : (0 : Int) ≤ (a : Int) := by omega
      have i1 : (a : Int) < (n : Int) := by omega
      have i2 : (0 : Int) ≤ (a : Int) + 2 := by omega
      have i3 : (a : Int) + 2 < (n : Int) := by omega
      have i4 : ((a : Int) + 2).toNat = a + 2 := by omega
      have HB2 := Lib.hid ((hb.out.setCell (p := ⟨w.heap.size, a, none⟩) (Nat.le_refl _) (.int .u8 ((x.getD (a + 2) 0).toNat : Int))).setCell (p := ⟨w.heap.size, a + 2, none⟩) (Nat.le_refl _) (.int .u8 ((x.getD a 0).toNat : Int)))
      clear hr0 hr1 hr2 hml hlf hr
      generalize ((x.getD a 0).toNat : Int) = v0 at *
      generalize ((x.getD (a + 2) 0).toNat : Int) = v2 at *
      go_wp2_with fail
      go_roundw
      case rel => exact ⟨k + 1, a + z, hkm, Lib.hid (by rw [hak.out, Nat.succ_mul]), haz, by go_num, HR2, HB2, by simpa using hzr⟩
      case measure => simp only [intOf]; omega
    · obtain rfl : k = m := by omega
      have haz : a = n := by rw [hak.out, HMM.out]
      have t0 : decide ((a : Int) + (z : Int) ≤ (n : Int)) = false := decide_eq_false (by omega)
      have t0n : decide (a + z ≤ n) = false := decide_eq_false (by omega)
      have hlf : (turnK z s k).length = n := by rw [turnK_len, HN.out]
      have kc := hr.out.text (P := Try.prog) (fun d hd => by obtain ⟨x, _, rfl⟩ := List.mem_map.1 hd; exact x.toNat_lt) n cap (by simp [hlf]) 22 9 5 Try.underlying22 Try.underlying5 Try.underlying9
      have e9 : (((turnK z s k).map UInt8.toNat).map UInt8.ofNat) = turnK z s k := by
        rw [List.map_map]
        have : (UInt8.ofNat ∘ UInt8.toNat) = id := by funext x; simp
        rw [this, List.map_id]
      rw [e9] at kc
      clear e9 hlf hr haz
      go_wp2_with fail
      exact FIN.out _ hb.out
end Go.Proofs.Ytfkkppagbhllgaa

/-
  THE WALK OF limewashref29.Get: its head.
-/
set_option linter.unusedVariables false
set_option linter.unusedSimpArgs false
set_option maxRecDepth 100000
namespace Go.Proofs.Ytfkkppagbhllgaa
open Go.RowKit

/-- Get's variables -/
structure RfAt (w W : World) (xs : List Value) : Prop where
  r : SlotN W w.heap.size zim
  m : SlotN W (w.heap.size + 1) xs
  lt : w.heap.size + 1 < W.heap.size
  below : Below w.heap.size w W
theorem RfAt.grown {w W W' : World} {xs : List Value} (h : RfAt w W xs) (hb : Below W.heap.size W W') : RfAt w W' xs :=
  ⟨h.r.below hb (by have := h.lt; omega), h.m.below hb h.lt, Nat.lt_of_lt_of_le h.lt hb.size, h.below.trans (hb.mono (by have := h.lt; omega))⟩
theorem RfAt.zero {w W : World} {xs : List Value} (h : RfAt w W xs) :
    SlotN ((((W.setCell ⟨w.heap.size, 0, none⟩ (.int .i64 0)).setCell ⟨w.heap.size, 1, none⟩ (.int .i64 0)).setCell ⟨w.heap.size, 2, none⟩ (.int .i64 0)).setCell ⟨w.heap.size, 3, none⟩ (.slice none 0 0)) w.heap.size zim ∧
    Below w.heap.size w ((((W.setCell ⟨w.heap.size, 0, none⟩ (.int .i64 0)).setCell ⟨w.heap.size, 1, none⟩ (.int .i64 0)).setCell ⟨w.heap.size, 2, none⟩ (.int .i64 0)).setCell ⟨w.heap.size, 3, none⟩ (.slice none 0 0)) :=
  ⟨(((h.r.setAt 0 (by simp [zim]) (.int .i64 0)).setAt 1 (by simp [zim]) (.int .i64 0)).setAt 2 (by simp [zim]) (.int .i64 0)).setAt 3 (by simp [zim]) (.slice none 0 0),
   (((h.below.setCell (p := ⟨w.heap.size, 0, none⟩) (Nat.le_refl _) (.int .i64 0)).setCell (p := ⟨w.heap.size, 1, none⟩) (Nat.le_refl _) (.int .i64 0)).setCell (p := ⟨w.heap.size, 2, none⟩) (Nat.le_refl _) (.int .i64 0)).setCell (p := ⟨w.heap.size, 3, none⟩) (Nat.le_refl _) (.slice none 0 0)⟩

set_option maxHeartbeats 400000 in
theorem getref_short (s : List UInt8) (w : World) (h18 : s.length < 18) : Calls Try.prog 26 #[.string ⟨s.toArray⟩] w (GetRes s w) := by
  have FNO : Hid (∀ w', Below w.heap.size w w' → GetRes s w (.returned (.tuple #[zimV, .int .i64 6])) w') := Lib.hid fun w' h2 => ⟨h2, .inl ⟨by unfold getT; rw [if_pos h18], rfl⟩⟩
  generalize hQ : GetRes s w = Qp at FNO ⊢
  clear hQ
  have HS1 := Lib.hid (SlotN.new w zim zimC 24 rfl)
  have HB1 := Lib.hid ((Below.refl w.heap.size w).alloc (Nat.le_refl _) (.cells zimC 24))
  unfold zimC at *
  have t0 : decide ((s.length : Int) < 18) = true := decide_eq_true (by omega)
  have t0n : decide (s.length < 18) = true := decide_eq_true (by omega)
  have e0 := HS1.out.c 0 _ rfl
  have e1 := HS1.out.c 1 _ rfl
  have e2 := HS1.out.c 2 _ rfl
  have e3 := HS1.out.c 3 _ rfl
  go_enter Try.func26, Try.ntmps26
  go_wp2_with fail
  exact bodyPost_ret (v := .tuple #[zimV, .int .i64 6]) (by simp [results, Try.results26, go_sem, e0, e1, e2, e3, zimV]) rfl (FNO.out _ HB1.out)

set_option maxHeartbeats 6400000 in
theorem getref_bad (s : List UInt8) (w : World) (hl : s.length ≤ 1000000) (h18 : 18 ≤ s.length) (hho : headOk s = false) : Calls Try.prog 26 #[.string ⟨s.toArray⟩] w (GetRes s w) := by
  have FNO : Hid (∀ w', getT s = none → Below w.heap.size w w' → GetRes s w (.returned (.tuple #[zimV, .int .i64 6])) w') := Lib.hid fun w' h1 h2 => ⟨h2, .inl ⟨h1, rfl⟩⟩
  have FYES : Hid (∀ m A n c w', getT s = some m → Byts w' w'.heap.size A n m.d → n ≤ c → c ≤ 9223372036854775807 → Below w.heap.size w w' → GetRes s w (.returned (.tuple #[imV m.w m.h ((8 * m.z : Nat) : Int) A n c, .int .i64 0])) w') := Lib.hid fun m A n c w' h1 h2 h3 h4 h5 => ⟨h5, .inr ⟨m, A, n, c, h1, rfl, h2, h3, h4⟩⟩
  generalize hQ : GetRes s w = Qp at FNO FYES ⊢
  clear hQ
  have HHO := Lib.hid hho
  clear hho
  have I12 := fun W => idx_str s 12 12 (by omega) rfl W
  have I13 := fun W => idx_str s 13 13 (by omega) rfl W
  have I14 := fun W => idx_str s 14 14 (by omega) rfl W
  have I15 := fun W => idx_str s 15 15 (by omega) rfl W
  have I16 := fun W => idx_str s 16 16 (by omega) rfl W
  have I2 := fun W => idx_str s 2 2 (by omega) rfl W
  have I17 := fun W => idx_str s 17 17 (by omega) rfl W
  obtain ⟨x12, h12⟩ : ∃ x, x = (s.getD 12 0).toNat := ⟨_, rfl⟩
  obtain ⟨x13, h13⟩ : ∃ x, x = (s.getD 13 0).toNat := ⟨_, rfl⟩
  obtain ⟨x14, h14⟩ : ∃ x, x = (s.getD 14 0).toNat := ⟨_, rfl⟩
  obtain ⟨x15, h15⟩ : ∃ x, x = (s.getD 15 0).toNat := ⟨_, rfl⟩
  obtain ⟨x16, h16⟩ : ∃ x, x = (s.getD 16 0).toNat := ⟨_, rfl⟩
  have b12 : x12 ≤ 255 := by have := (s.getD 12 0).toNat_lt; omega
  have b13 : x13 ≤ 255 := by have := (s.getD 13 0).toNat_lt; omega
  have b14 : x14 ≤ 255 := by have := (s.getD 14 0).toNat_lt; omega
  have b15 : x15 ≤ 255 := by have := (s.getD 15 0).toNat_lt; omega
  have b16 : x16 ≤ 255 := by have := (s.getD 16 0).toNat_lt; omega
  obtain ⟨p, hp⟩ : ∃ p, p = x12 + 256 * x13 := ⟨_, rfl⟩
  obtain ⟨q, hq⟩ : ∃ q, q = x14 + 256 * x15 := ⟨_, rfl⟩
  have o1 : (x12 : Int) + 256 * (x13 : Int) = (p : Int) := by omega
  have o2 : (x14 : Int) + 256 * (x15 : Int) = (q : Int) := by omega
  obtain ⟨pk, hpk⟩ : ∃ b, b = isPacked s := ⟨_, rfl⟩
  obtain ⟨tp, htp⟩ : ∃ b, b = isTop s := ⟨_, rfl⟩
  have t5 : ((((s.getD 2 0).toNat : Nat) : Int) == 10) = pk := by
    rw [hpk]; exact u8_eq (s.getD 2 0) 10 (by decide)
  have t6 : decide (32 ≤ (((s.getD 17 0).toNat : Nat) : Int)) = tp := by
    rw [htp]; unfold isTop
    rw [decide_eq_decide]; omega
  have HB : Hid (b2 s 12 = p ∧ b2 s 14 = q ∧ bits s = x16) := Lib.hid (by
    unfold b2 bits
    exact ⟨by rw [hp, h12, h13], by rw [hq, h14, h15], h16.symm⟩)
  rw [← h12] at I12
  rw [← h13] at I13
  rw [← h14] at I14
  rw [← h15] at I15
  rw [← h16] at I16
  have hp9 : p ≤ 65535 := by omega
  have hq9 : q ≤ 65535 := by omega
  have HPK := Lib.hid hpk
  have HTP := Lib.hid htp
  have v12 : IntKind.i64.wrap (x12 : Int) = (x12 : Int) := by rw [IntKind.wrap_i64]; omega
  have v13 : IntKind.i64.wrap (x13 : Int) = (x13 : Int) := by rw [IntKind.wrap_i64]; omega
  have v14 : IntKind.i64.wrap (x14 : Int) = (x14 : Int) := by rw [IntKind.wrap_i64]; omega
  have v15 : IntKind.i64.wrap (x15 : Int) = (x15 : Int) := by rw [IntKind.wrap_i64]; omega
  have v16 : IntKind.i64.wrap (x16 : Int) = (x16 : Int) := by rw [IntKind.wrap_i64]; omega
  have w13 : IntKind.i64.wrap (256 * (x13 : Int)) = 256 * (x13 : Int) := by rw [IntKind.wrap_i64]; omega
  have w15 : IntKind.i64.wrap (256 * (x15 : Int)) = 256 * (x15 : Int) := by rw [IntKind.wrap_i64]; omega
  have wp : IntKind.i64.wrap (p : Int) = (p : Int) := by rw [IntKind.wrap_i64]; omega
  have wq : IntKind.i64.wrap (q : Int) = (q : Int) := by rw [IntKind.wrap_i64]; omega
  clear h12 h13 h14 h15 h16 hp hq hpk htp
  have hb2 : (s.getD 2 0).toNat ≤ 255 := by have := (s.getD 2 0).toNat_lt; omega
  have hb17 : (s.getD 17 0).toNat ≤ 255 := by have := (s.getD 17 0).toNat_lt; omega
  generalize (s.getD 2 0).toNat = x2 at *
  generalize (s.getD 17 0).toNat = x17 at *
  have t0 : decide ((s.length : Int) < 18) = false := decide_eq_false (by omega)
  have t0n : decide (s.length < 18) = false := decide_eq_false (by omega)
  have HS1 := Lib.hid (SlotN.new w zim zimC 24 rfl)
  have HB1 := Lib.hid ((Below.refl w.heap.size w).alloc (Nat.le_refl _) (.cells zimC 24))
  have hz0 : (w.alloc (.cells zimC 24)).heap.size = w.heap.size + 1 := by simp
  unfold zimC at *
  go_enter Try.func26, Try.ntmps26
  go_wp2_with fail
  generalize (w.alloc (.cells #[.int .i64 0, .int .i64 0, .int .i64 0, .slice none 0 0] 24)) = W0 at *
  refine wp_region_held_drew (S := (fun _ => True)) (by kernel_rfl) ?_ (fun hHeld => ?_)
  · trivial
  refine wpAnyH_takeD 0 (d := (some 20)) (v := ?_) rfl rfl (by kernel_rfl) (by kernel_rfl) (by kernel_rfl) (by kernel_rfl) (fun _ _ _ h => h) ?_ (by assumption) ?_
  rotate_left
  · intro ww hSw; (try dsimp only at hSw); first | (go_simp; done) | (go_simp; with_reducible rfl)
  simp only [Act.put, List.setIfInBounds_toArray, List.set_cons_zero, List.set_cons_succ]
  refine wpAnyH_takeD 1 (d := (some 21)) (v := ?_) rfl rfl (by kernel_rfl) (by kernel_rfl) (by kernel_rfl) (by kernel_rfl) (fun _ _ _ h => h) ?_ (by assumption) ?_
  rotate_left
  · intro ww hSw; (try dsimp only at hSw); first | (go_simp; done) | (go_simp; with_reducible rfl)
  simp only [Act.put, List.setIfInBounds_toArray, List.set_cons_zero, List.set_cons_succ]
  refine wpAnyH_takeD 2 (d := (some 22)) (v := ?_) rfl rfl (by kernel_rfl) (by kernel_rfl) (by kernel_rfl) (by kernel_rfl) (fun _ _ _ h => h) ?_ (by assumption) ?_
  rotate_left
  · intro ww hSw; (try dsimp only at hSw); first | (go_simp; done) | (go_simp; with_reducible rfl)
  simp only [Act.put, List.setIfInBounds_toArray, List.set_cons_zero, List.set_cons_succ]
  refine wpAnyH_takeD 3 (d := (some 23)) (v := ?_) rfl rfl (by kernel_rfl) (by kernel_rfl) (by kernel_rfl) (by kernel_rfl) (fun _ _ _ h => h) ?_ (by assumption) ?_
  rotate_left
  · intro ww hSw; (try dsimp only at hSw); first | (go_simp; done) | (go_simp; with_reducible rfl)
  simp only [Act.put, List.setIfInBounds_toArray, List.set_cons_zero, List.set_cons_succ]
  refine wpAnyH_takeD 4 (d := (some 24)) (v := ?_) rfl rfl (by kernel_rfl) (by kernel_rfl) (by kernel_rfl) (by kernel_rfl) (fun _ _ _ h => h) ?_ (by assumption) ?_
  rotate_left
  · intro ww hSw; (try dsimp only at hSw); first | (go_simp; done) | (go_simp; with_reducible rfl)
  simp only [Act.put, List.setIfInBounds_toArray, List.set_cons_zero, List.set_cons_succ]
  refine wpAnyH_takeD 5 (d := (some 25)) (v := ?_) rfl rfl (by kernel_rfl) (by kernel_rfl) (by kernel_rfl) (by kernel_rfl) (fun _ _ _ h => h) ?_ (by assumption) ?_
  rotate_left
  · intro ww hSw; (try dsimp only at hSw); first | (go_simp; done) | (go_simp; with_reducible rfl)
  simp only [Act.put, List.setIfInBounds_toArray, List.set_cons_zero, List.set_cons_succ]
  refine wpAnyH_takeD 6 (d := (some 26)) (v := ?_) rfl rfl (by kernel_rfl) (by kernel_rfl) (by kernel_rfl) (by kernel_rfl) (fun _ _ _ h => h) ?_ (by assumption) ?_
  rotate_left
  · intro ww hSw; (try dsimp only at hSw); first | (go_simp; done) | (go_simp; with_reducible rfl)
  simp only [Act.put, List.setIfInBounds_toArray, List.set_cons_zero, List.set_cons_succ]
  refine wpAnyH_takeD 7 (d := (some 27)) (v := ?_) rfl rfl (by kernel_rfl) (by kernel_rfl) (by kernel_rfl) (by kernel_rfl) (fun _ _ _ h => h) ?_ (by assumption) ?_
  rotate_left
  · intro ww hSw; (try dsimp only at hSw); first | (go_simp; done) | (go_simp; with_reducible rfl)
  simp only [Act.put, List.setIfInBounds_toArray, List.set_cons_zero, List.set_cons_succ]
  refine wpAnyH_takeD 8 (d := (some 28)) (v := ?_) rfl rfl (by kernel_rfl) (by kernel_rfl) (by kernel_rfl) (by kernel_rfl) (fun _ _ _ h => h) ?_ (by assumption) ?_
  rotate_left
  · intro ww hSw; (try dsimp only at hSw); first | (go_simp; done) | (go_simp; with_reducible rfl)
  simp only [Act.put, List.setIfInBounds_toArray, List.set_cons_zero, List.set_cons_succ]
  refine wpAnyH_takeD 9 (d := (some 29)) (v := ?_) rfl rfl (by kernel_rfl) (by kernel_rfl) (by kernel_rfl) (by kernel_rfl) (fun _ _ _ h => h) ?_ (by assumption) ?_
  rotate_left
  · intro ww hSw; (try dsimp only at hSw); first | (go_simp; done) | (go_simp; with_reducible rfl)
  simp only [Act.put, List.setIfInBounds_toArray, List.set_cons_zero, List.set_cons_succ]
  refine wpAnyH_takeD 10 (d := (some 30)) (v := ?_) rfl rfl (by kernel_rfl) (by kernel_rfl) (by kernel_rfl) (by kernel_rfl) (fun _ _ _ h => h) ?_ (by assumption) ?_
  rotate_left
  · intro ww hSw; (try dsimp only at hSw); first | (go_simp; done) | (go_simp; with_reducible rfl)
  simp only [Act.put, List.setIfInBounds_toArray, List.set_cons_zero, List.set_cons_succ]
  refine wpAnyH_takeD 11 (d := (some 31)) (v := ?_) rfl rfl (by kernel_rfl) (by kernel_rfl) (by kernel_rfl) (by kernel_rfl) (fun _ _ _ h => h) ?_ (by assumption) ?_
  rotate_left
  · intro ww hSw; (try dsimp only at hSw); first | (go_simp; done) | (go_simp; with_reducible rfl)
  simp only [Act.put, List.setIfInBounds_toArray, List.set_cons_zero, List.set_cons_succ]
  refine wpAnyH_takeD 12 (d := (some 32)) (v := ?_) rfl rfl (by kernel_rfl) (by kernel_rfl) (by kernel_rfl) (by kernel_rfl) (fun _ _ _ h => h) ?_ (by assumption) ?_
  rotate_left
  · intro ww hSw; (try dsimp only at hSw); first | (go_simp; done) | (go_simp; with_reducible rfl)
  simp only [Act.put, List.setIfInBounds_toArray, List.set_cons_zero, List.set_cons_succ]
  refine wpAnyH_takeD 13 (d := (some 33)) (v := ?_) rfl rfl (by kernel_rfl) (by kernel_rfl) (by kernel_rfl) (by kernel_rfl) (fun _ _ _ h => h) ?_ (by assumption) ?_
  rotate_left
  · intro ww hSw; (try dsimp only at hSw); first | (go_simp; done) | (go_simp; with_reducible rfl)
  simp only [Act.put, List.setIfInBounds_toArray, List.set_cons_zero, List.set_cons_succ]
  refine wpAnyH_takeD 14 (d := (some 34)) (v := ?_) rfl rfl (by kernel_rfl) (by kernel_rfl) (by kernel_rfl) (by kernel_rfl) (fun _ _ _ h => h) ?_ (by assumption) ?_
  rotate_left
  · intro ww hSw; (try dsimp only at hSw); first | (go_simp; done) | (go_simp; with_reducible rfl)
  simp only [Act.put, List.setIfInBounds_toArray, List.set_cons_zero, List.set_cons_succ]
  refine wpAnyH_takeD 15 (d := (some 35)) (v := ?_) rfl rfl (by kernel_rfl) (by kernel_rfl) (by kernel_rfl) (by kernel_rfl) (fun _ _ _ h => h) ?_ (by assumption) ?_
  rotate_left
  · intro ww hSw; (try dsimp only at hSw); first | (go_simp; done) | (go_simp; with_reducible rfl)
  simp only [Act.put, List.setIfInBounds_toArray, List.set_cons_zero, List.set_cons_succ]
  refine wpAnyH_takeD 16 (d := (some 36)) (v := ?_) rfl rfl (by kernel_rfl) (by kernel_rfl) (by kernel_rfl) (by kernel_rfl) (fun _ _ _ h => h) ?_ (by assumption) ?_
  rotate_left
  · intro ww hSw; (try dsimp only at hSw); first | (go_simp; done) | (go_simp; with_reducible rfl)
  simp only [Act.put, List.setIfInBounds_toArray, List.set_cons_zero, List.set_cons_succ]
  refine wpAnyH_takeD 17 (d := (some 37)) (v := ?_) rfl rfl (by kernel_rfl) (by kernel_rfl) (by kernel_rfl) (by kernel_rfl) (fun _ _ _ h => h) ?_ (by assumption) ?_
  rotate_left
  · intro ww hSw; (try dsimp only at hSw); first | (go_simp; done) | (go_simp; with_reducible rfl)
  simp only [Act.put, List.setIfInBounds_toArray, List.set_cons_zero, List.set_cons_succ]
  refine wpAnyH_takeD 18 (d := (some 38)) (v := ?_) rfl rfl (by kernel_rfl) (by kernel_rfl) (by kernel_rfl) (by kernel_rfl) (fun _ _ _ h => h) ?_ (by assumption) ?_
  rotate_left
  · intro ww hSw; (try dsimp only at hSw); first | (go_simp; done) | (go_simp; with_reducible rfl)
  simp only [Act.put, List.setIfInBounds_toArray, List.set_cons_zero, List.set_cons_succ]
  refine wpAnyH_takeD 19 (d := (some 39)) (v := ?_) rfl rfl (by kernel_rfl) (by kernel_rfl) (by kernel_rfl) (by kernel_rfl) (fun _ _ _ h => h) ?_ (by assumption) ?_
  rotate_left
  · intro ww hSw; (try dsimp only at hSw); first | (go_simp; done) | (go_simp; with_reducible rfl)
  simp only [Act.put, List.setIfInBounds_toArray, List.set_cons_zero, List.set_cons_succ]
  refine wpAnyH_ready (rs := [20]) (by kernel_rfl) (by simp) ?_
  refine AllReadyH.cons (o := _) rfl (fun K hK => ?_) AllReadyH.nil
  go_simp
  refine hK.out _ _ ?_ (fun hHeld => ?_)
  · trivial
  clear hK K
  refine wpAnyH_ready (rs := [21]) (by kernel_rfl) (by simp) ?_
  refine AllReadyH.cons (o := _) rfl (fun K hK => ?_) AllReadyH.nil
  go_simp
  refine hK.out _ _ ?_ (fun hHeld => ?_)
  · trivial
  clear hK K
  refine wpAnyH_done (by kernel_rfl) ?_ _
  have HA0 : Hid (RfAt w ((W0.alloc (.cells #[.int .i64 (p : Int), .int .i64 (q : Int), .int .i64 (x16 : Int), .slice none 0 0] 24)).drew) [.int .i64 (p : Int), .int .i64 (q : Int), .int .i64 (x16 : Int), .slice none 0 0]) := Lib.hid (by
    have s2 := SlotN.new W0 [.int .i64 (p : Int), .int .i64 (q : Int), .int .i64 (x16 : Int), .slice none 0 0] #[.int .i64 (p : Int), .int .i64 (q : Int), .int .i64 (x16 : Int), .slice none 0 0] 24 rfl
    rw [hz0] at s2
    have s3 := s2.drewN 1
    have hb3 := ((Below.refl (w.heap.size + 1) W0).alloc (by omega) (.cells #[.int .i64 (p : Int), .int .i64 (q : Int), .int .i64 (x16 : Int), .slice none 0 0] 24)).drew
    exact ⟨HS1.out.below hb3 (by omega), s3, by show w.heap.size + 1 < (W0.alloc _).heap.size; simp [hz0], (HB1.out.alloc HB1.out.size _).drew⟩)
  go_wp2_with fail
  generalize ((W0.alloc (.cells #[.int .i64 (p : Int), .int .i64 (q : Int), .int .i64 (x16 : Int), .slice none 0 0] 24)).drew) = W3 at *
  clear HS1 HB1 hz0 t5 t6 I2 I12 I13 I14 I15 I16 I17 o1 o2 w13 w15 wp wq v12 v13 v14 v15 v16
  have d0 := HA0.out.m.c 0 _ rfl
  have d1 := HA0.out.m.c 1 _ rfl
  have d2 := HA0.out.m.c 2 _ rfl
  have d3 := HA0.out.m.c 3 _ rfl
  have hlt3 := HA0.out.lt
  cases hf : formT p q x16 with
  | false =>
    have HNO : Hid (getT s = none) := Lib.hid (by
      unfold getT headOk
      rw [HB.out.1, HB.out.2.1, HB.out.2.2, hf, if_neg (by omega)]; simp)
    have HZ := Lib.hid (HA0.out.grown ((Below.refl W3.heap.size W3).drew))
    unfold formT at hf
    rw [decide_eq_false_iff_not] at hf
    clear HB HPK HTP FYES
    by_cases g1 : p < 1
    · skip
      have a1 : decide ((p : Int) < 1) = true := decide_eq_true (by omega)
      have a1n : decide (p < 1) = true := decide_eq_true (by omega)
      refine wp_region_held_drew (S := (fun w' => w'.cell? ⟨w.heap.size + 1, 0, none⟩ = some (.int .i64 (p : Int)) ∧ w'.cell? ⟨w.heap.size + 1, 1, none⟩ = some (.int .i64 (q : Int)) ∧ w'.cell? ⟨w.heap.size + 1, 2, none⟩ = some (.int .i64 (x16 : Int)) ∧ w'.cell? ⟨w.heap.size + 1, 3, none⟩ = some (.slice none 0 0))) (by kernel_rfl) ?_ (fun hHeld => ?_)
      · refine ⟨?_, ?_, ?_, ?_⟩ <;> (first | with_reducible assumption | (rw [hby.cell (by (try dsimp only); omega)]; with_reducible assumption) | (go_keep; done))
      refine wpAnyH_takeD 0 (d := (some 46)) (v := ?_) rfl rfl (by kernel_rfl) (by kernel_rfl) (by kernel_rfl) (by kernel_rfl) (fun _ _ _ h => h) ?_ (by assumption) ?_
      rotate_left
      · intro ww hSw; (try dsimp only at hSw); first | (go_simp; done) | (go_simp; with_reducible rfl)
      simp only [Act.put, List.setIfInBounds_toArray, List.set_cons_zero, List.set_cons_succ]
      refine wpAnyH_takeD 1 (d := (some 47)) (v := ?_) rfl rfl (by kernel_rfl) (by kernel_rfl) (by kernel_rfl) (by kernel_rfl) (fun _ _ _ h => h) ?_ (by assumption) ?_
      rotate_left
      · intro ww hSw; (try dsimp only at hSw); first | (go_simp; done) | (go_simp; with_reducible rfl)
      simp only [Act.put, List.setIfInBounds_toArray, List.set_cons_zero, List.set_cons_succ]
      refine wpAnyH_takeD 2 (d := (some 48)) (v := ?_) rfl rfl (by kernel_rfl) (by kernel_rfl) (by kernel_rfl) (by kernel_rfl) (fun _ _ _ h => h) ?_ (by assumption) ?_
      rotate_left
      · intro ww hSw; (try dsimp only at hSw); first | (go_simp; done) | (go_simp; with_reducible rfl)
      simp only [Act.put, List.setIfInBounds_toArray, List.set_cons_zero, List.set_cons_succ]
      refine wpAnyH_takeD 3 (d := (some 49)) (v := ?_) rfl rfl (by kernel_rfl) (by kernel_rfl) (by kernel_rfl) (by kernel_rfl) (fun _ _ _ h => h) ?_ (by assumption) ?_
      rotate_left
      · intro ww hSw; (try dsimp only at hSw); first | (go_simp; done) | (go_simp; with_reducible rfl)
      simp only [Act.put, List.setIfInBounds_toArray, List.set_cons_zero, List.set_cons_succ]
      refine wpAnyH_skip 4 (d := (some 50)) (by kernel_rfl) (by kernel_rfl) (by kernel_rfl) (by kernel_rfl) (fun _ _ _ h => h) (by assumption) ?_
      simp only [Act.put, List.setIfInBounds_toArray, List.set_cons_zero, List.set_cons_succ]
      refine wpAnyH_skip 5 (d := (some 51)) (by kernel_rfl) (by kernel_rfl) (by kernel_rfl) (by kernel_rfl) (fun _ _ _ h => h) (by assumption) ?_
      simp only [Act.put, List.setIfInBounds_toArray, List.set_cons_zero, List.set_cons_succ]
      refine wpAnyH_skip 6 (d := (some 52)) (by kernel_rfl) (by kernel_rfl) (by kernel_rfl) (by kernel_rfl) (fun _ _ _ h => h) (by assumption) ?_
      simp only [Act.put, List.setIfInBounds_toArray, List.set_cons_zero, List.set_cons_succ]
      refine wpAnyH_takeD 7 (d := (some 53)) (v := ?_) rfl rfl (by kernel_rfl) (by kernel_rfl) (by kernel_rfl) (by kernel_rfl) (fun _ _ _ h => h) ?_ (by assumption) ?_
      rotate_left
      · intro ww hSw; (try dsimp only at hSw); first | (go_simp; done) | (go_simp; with_reducible rfl)
      simp only [Act.put, List.setIfInBounds_toArray, List.set_cons_zero, List.set_cons_succ]
      refine wpAnyH_takeD 8 (d := (some 54)) (v := ?_) rfl rfl (by kernel_rfl) (by kernel_rfl) (by kernel_rfl) (by kernel_rfl) (fun _ _ _ h => h) ?_ (by assumption) ?_
      rotate_left
      · intro ww hSw; (try dsimp only at hSw); first | (go_simp; done) | (go_simp; with_reducible rfl)
      simp only [Act.put, List.setIfInBounds_toArray, List.set_cons_zero, List.set_cons_succ]
      refine wpAnyH_skip 9 (d := (some 55)) (by kernel_rfl) (by kernel_rfl) (by kernel_rfl) (by kernel_rfl) (fun _ _ _ h => h) (by assumption) ?_
      simp only [Act.put, List.setIfInBounds_toArray, List.set_cons_zero, List.set_cons_succ]
      refine wpAnyH_skip 10 (d := (some 56)) (by kernel_rfl) (by kernel_rfl) (by kernel_rfl) (by kernel_rfl) (fun _ _ _ h => h) (by assumption) ?_
      simp only [Act.put, List.setIfInBounds_toArray, List.set_cons_zero, List.set_cons_succ]
      refine wpAnyH_skip 11 (d := (some 57)) (by kernel_rfl) (by kernel_rfl) (by kernel_rfl) (by kernel_rfl) (fun _ _ _ h => h) (by assumption) ?_
      simp only [Act.put, List.setIfInBounds_toArray, List.set_cons_zero, List.set_cons_succ]
      refine wpAnyH_takeD 12 (d := (some 58)) (v := ?_) rfl rfl (by kernel_rfl) (by kernel_rfl) (by kernel_rfl) (by kernel_rfl) (fun _ _ _ h => h) ?_ (by assumption) ?_
      rotate_left
      · intro ww hSw; (try dsimp only at hSw); first | (go_simp; done) | (go_simp; with_reducible rfl)
      simp only [Act.put, List.setIfInBounds_toArray, List.set_cons_zero, List.set_cons_succ]
      refine wpAnyH_takeD 13 (d := (some 59)) (v := ?_) rfl rfl (by kernel_rfl) (by kernel_rfl) (by kernel_rfl) (by kernel_rfl) (fun _ _ _ h => h) ?_ (by assumption) ?_
      rotate_left
      · intro ww hSw; (try dsimp only at hSw); first | (go_simp; done) | (go_simp; with_reducible rfl)
      simp only [Act.put, List.setIfInBounds_toArray, List.set_cons_zero, List.set_cons_succ]
      refine wpAnyH_skip 14 (d := (some 60)) (by kernel_rfl) (by kernel_rfl) (by kernel_rfl) (by kernel_rfl) (fun _ _ _ h => h) (by assumption) ?_
      simp only [Act.put, List.setIfInBounds_toArray, List.set_cons_zero, List.set_cons_succ]
      refine wpAnyH_skip 15 (d := (some 61)) (by kernel_rfl) (by kernel_rfl) (by kernel_rfl) (by kernel_rfl) (fun _ _ _ h => h) (by assumption) ?_
      simp only [Act.put, List.setIfInBounds_toArray, List.set_cons_zero, List.set_cons_succ]
      refine wpAnyH_skip 16 (d := (some 62)) (by kernel_rfl) (by kernel_rfl) (by kernel_rfl) (by kernel_rfl) (fun _ _ _ h => h) (by assumption) ?_
      simp only [Act.put, List.setIfInBounds_toArray, List.set_cons_zero, List.set_cons_succ]
      refine wpAnyH_takeD 17 (d := (some 63)) (v := ?_) rfl rfl (by kernel_rfl) (by kernel_rfl) (by kernel_rfl) (by kernel_rfl) (fun _ _ _ h => h) ?_ (by assumption) ?_
      rotate_left
      · intro ww hSw; (try dsimp only at hSw); first | (go_simp; done) | (go_simp; with_reducible rfl)
      simp only [Act.put, List.setIfInBounds_toArray, List.set_cons_zero, List.set_cons_succ]
      refine wpAnyH_takeD 18 (d := (some 64)) (v := ?_) rfl rfl (by kernel_rfl) (by kernel_rfl) (by kernel_rfl) (by kernel_rfl) (fun _ _ _ h => h) ?_ (by assumption) ?_
      rotate_left
      · intro ww hSw; (try dsimp only at hSw); first | (go_simp; done) | (go_simp; with_reducible rfl)
      simp only [Act.put, List.setIfInBounds_toArray, List.set_cons_zero, List.set_cons_succ]
      refine wpAnyH_skip 19 (d := (some 65)) (by kernel_rfl) (by kernel_rfl) (by kernel_rfl) (by kernel_rfl) (fun _ _ _ h => h) (by assumption) ?_
      simp only [Act.put, List.setIfInBounds_toArray, List.set_cons_zero, List.set_cons_succ]
      refine wpAnyH_skip 20 (d := (some 66)) (by kernel_rfl) (by kernel_rfl) (by kernel_rfl) (by kernel_rfl) (fun _ _ _ h => h) (by assumption) ?_
      simp only [Act.put, List.setIfInBounds_toArray, List.set_cons_zero, List.set_cons_succ]
      refine wpAnyH_skip 21 (d := (some 67)) (by kernel_rfl) (by kernel_rfl) (by kernel_rfl) (by kernel_rfl) (fun _ _ _ h => h) (by assumption) ?_
      simp only [Act.put, List.setIfInBounds_toArray, List.set_cons_zero, List.set_cons_succ]
      refine wpAnyH_skip 22 (d := (some 68)) (by kernel_rfl) (by kernel_rfl) (by kernel_rfl) (by kernel_rfl) (fun _ _ _ h => h) (by assumption) ?_
      simp only [Act.put, List.setIfInBounds_toArray, List.set_cons_zero, List.set_cons_succ]
      refine wpAnyH_skip 23 (d := (some 69)) (by kernel_rfl) (by kernel_rfl) (by kernel_rfl) (by kernel_rfl) (fun _ _ _ h => h) (by assumption) ?_
      simp only [Act.put, List.setIfInBounds_toArray, List.set_cons_zero, List.set_cons_succ]
      refine wpAnyH_skip 24 (d := (some 70)) (by kernel_rfl) (by kernel_rfl) (by kernel_rfl) (by kernel_rfl) (fun _ _ _ h => h) (by assumption) ?_
      simp only [Act.put, List.setIfInBounds_toArray, List.set_cons_zero, List.set_cons_succ]
      refine wpAnyH_skip 25 (d := (some 71)) (by kernel_rfl) (by kernel_rfl) (by kernel_rfl) (by kernel_rfl) (fun _ _ _ h => h) (by assumption) ?_
      simp only [Act.put, List.setIfInBounds_toArray, List.set_cons_zero, List.set_cons_succ]
      refine wpAnyH_skip 26 (d := (some 72)) (by kernel_rfl) (by kernel_rfl) (by kernel_rfl) (by kernel_rfl) (fun _ _ _ h => h) (by assumption) ?_
      simp only [Act.put, List.setIfInBounds_toArray, List.set_cons_zero, List.set_cons_succ]
      refine wpAnyH_takeD 27 (d := (some 73)) (v := ?_) rfl rfl (by kernel_rfl) (by kernel_rfl) (by kernel_rfl) (by kernel_rfl) (fun _ _ _ h => h) ?_ (by assumption) ?_
      rotate_left
      · intro ww hSw; (try dsimp only at hSw); first | (go_simp; done) | (go_simp; with_reducible rfl)
      simp only [Act.put, List.setIfInBounds_toArray, List.set_cons_zero, List.set_cons_succ]
      refine wpAnyH_takeD 28 (d := (some 74)) (v := ?_) rfl rfl (by kernel_rfl) (by kernel_rfl) (by kernel_rfl) (by kernel_rfl) (fun _ _ _ h => h) ?_ (by assumption) ?_
      rotate_left
      · intro ww hSw; (try dsimp only at hSw); first | (go_simp; done) | (go_simp; with_reducible rfl)
      simp only [Act.put, List.setIfInBounds_toArray, List.set_cons_zero, List.set_cons_succ]
      refine wpAnyH_skip 29 (d := (some 75)) (by kernel_rfl) (by kernel_rfl) (by kernel_rfl) (by kernel_rfl) (fun _ _ _ h => h) (by assumption) ?_
      simp only [Act.put, List.setIfInBounds_toArray, List.set_cons_zero, List.set_cons_succ]
      refine wpAnyH_skip 30 (d := (some 76)) (by kernel_rfl) (by kernel_rfl) (by kernel_rfl) (by kernel_rfl) (fun _ _ _ h => h) (by assumption) ?_
      simp only [Act.put, List.setIfInBounds_toArray, List.set_cons_zero, List.set_cons_succ]
      refine wpAnyH_skip 31 (d := (some 77)) (by kernel_rfl) (by kernel_rfl) (by kernel_rfl) (by kernel_rfl) (fun _ _ _ h => h) (by assumption) ?_
      simp only [Act.put, List.setIfInBounds_toArray, List.set_cons_zero, List.set_cons_succ]
      refine wpAnyH_skip 32 (d := (some 78)) (by kernel_rfl) (by kernel_rfl) (by kernel_rfl) (by kernel_rfl) (fun _ _ _ h => h) (by assumption) ?_
      simp only [Act.put, List.setIfInBounds_toArray, List.set_cons_zero, List.set_cons_succ]
      refine wpAnyH_skip 33 (d := (some 79)) (by kernel_rfl) (by kernel_rfl) (by kernel_rfl) (by kernel_rfl) (fun _ _ _ h => h) (by assumption) ?_
      simp only [Act.put, List.setIfInBounds_toArray, List.set_cons_zero, List.set_cons_succ]
      refine wpAnyH_skip 34 (d := (some 80)) (by kernel_rfl) (by kernel_rfl) (by kernel_rfl) (by kernel_rfl) (fun _ _ _ h => h) (by assumption) ?_
      simp only [Act.put, List.setIfInBounds_toArray, List.set_cons_zero, List.set_cons_succ]
      refine wpAnyH_skip 35 (d := (some 81)) (by kernel_rfl) (by kernel_rfl) (by kernel_rfl) (by kernel_rfl) (fun _ _ _ h => h) (by assumption) ?_
      simp only [Act.put, List.setIfInBounds_toArray, List.set_cons_zero, List.set_cons_succ]
      refine wpAnyH_takeD 36 (d := (some 82)) (v := ?_) rfl rfl (by kernel_rfl) (by kernel_rfl) (by kernel_rfl) (by kernel_rfl) (fun _ _ _ h => h) ?_ (by assumption) ?_
      rotate_left
      · intro ww hSw; (try dsimp only at hSw); first | (go_simp; done) | (go_simp; with_reducible rfl)
      simp only [Act.put, List.setIfInBounds_toArray, List.set_cons_zero, List.set_cons_succ]
      refine wpAnyH_done (by kernel_rfl) ?_ _
      generalize W3.drew = W4 at *
      have c0 := HZ.out.r.c 0 _ rfl
      have c1' := HZ.out.r.c 1 _ rfl
      have c2 := HZ.out.r.c 2 _ rfl
      have c3 := HZ.out.r.c 3 _ rfl
      have f0 := HZ.out.r.f 0
      have f1 := HZ.out.r.f 1
      have f2 := HZ.out.r.f 2
      have f3 := HZ.out.r.f 3
      have HZ2 := Lib.hid HZ.out.zero
      go_wp2_with fail
      generalize World.setCell _ ⟨w.heap.size, 3, none⟩ (.slice none 0 0) = V at *
      clear c0 c1' c2 c3 f0 f1 f2 f3
      have e0 := HZ2.out.1.c 0 _ rfl
      have e1 := HZ2.out.1.c 1 _ rfl
      have e2 := HZ2.out.1.c 2 _ rfl
      have e3 := HZ2.out.1.c 3 _ rfl
      exact bodyPost_ret (v := .tuple #[zimV, .int .i64 6]) (by simp [results, Try.results26, go_sem, e0, e1, e2, e3, zimV]) rfl (FNO.out _ HNO.out HZ2.out.2)
    by_cases g2 : 256 < p
    · skip
      have a1 : decide ((p : Int) < 1) = false := decide_eq_false (by omega)
      have a1n : decide (p < 1) = false := decide_eq_false (by omega)
      have a2 : decide ((256 : Int) < (p : Int)) = true := decide_eq_true (by omega)
      have a2n : decide (256 < p) = true := decide_eq_true (by omega)
      refine wp_region_held_drew (S := (fun w' => w'.cell? ⟨w.heap.size + 1, 0, none⟩ = some (.int .i64 (p : Int)) ∧ w'.cell? ⟨w.heap.size + 1, 1, none⟩ = some (.int .i64 (q : Int)) ∧ w'.cell? ⟨w.heap.size + 1, 2, none⟩ = some (.int .i64 (x16 : Int)) ∧ w'.cell? ⟨w.heap.size + 1, 3, none⟩ = some (.slice none 0 0))) (by kernel_rfl) ?_ (fun hHeld => ?_)
      · refine ⟨?_, ?_, ?_, ?_⟩ <;> (first | with_reducible assumption | (rw [hby.cell (by (try dsimp only); omega)]; with_reducible assumption) | (go_keep; done))
      refine wpAnyH_takeD 0 (d := (some 46)) (v := ?_) rfl rfl (by kernel_rfl) (by kernel_rfl) (by kernel_rfl) (by kernel_rfl) (fun _ _ _ h => h) ?_ (by assumption) ?_
      rotate_left
      · intro ww hSw; (try dsimp only at hSw); first | (go_simp; done) | (go_simp; with_reducible rfl)
      simp only [Act.put, List.setIfInBounds_toArray, List.set_cons_zero, List.set_cons_succ]
      refine wpAnyH_takeD 1 (d := (some 47)) (v := ?_) rfl rfl (by kernel_rfl) (by kernel_rfl) (by kernel_rfl) (by kernel_rfl) (fun _ _ _ h => h) ?_ (by assumption) ?_
      rotate_left
      · intro ww hSw; (try dsimp only at hSw); first | (go_simp; done) | (go_simp; with_reducible rfl)
      simp only [Act.put, List.setIfInBounds_toArray, List.set_cons_zero, List.set_cons_succ]
      refine wpAnyH_takeD 2 (d := (some 48)) (v := ?_) rfl rfl (by kernel_rfl) (by kernel_rfl) (by kernel_rfl) (by kernel_rfl) (fun _ _ _ h => h) ?_ (by assumption) ?_
      rotate_left
      · intro ww hSw; (try dsimp only at hSw); first | (go_simp; done) | (go_simp; with_reducible rfl)
      simp only [Act.put, List.setIfInBounds_toArray, List.set_cons_zero, List.set_cons_succ]
      refine wpAnyH_takeD 3 (d := (some 49)) (v := ?_) rfl rfl (by kernel_rfl) (by kernel_rfl) (by kernel_rfl) (by kernel_rfl) (fun _ _ _ h => h) ?_ (by assumption) ?_
      rotate_left
      · intro ww hSw; (try dsimp only at hSw); first | (go_simp; done) | (go_simp; with_reducible rfl)
      simp only [Act.put, List.setIfInBounds_toArray, List.set_cons_zero, List.set_cons_succ]
      refine wpAnyH_takeD 4 (d := (some 50)) (v := ?_) rfl rfl (by kernel_rfl) (by kernel_rfl) (by kernel_rfl) (by kernel_rfl) (fun _ _ _ h => h) ?_ (by assumption) ?_
      rotate_left
      · intro ww hSw; (try dsimp only at hSw); first | (go_simp; done) | (go_simp; with_reducible rfl)
      simp only [Act.put, List.setIfInBounds_toArray, List.set_cons_zero, List.set_cons_succ]
      refine wpAnyH_takeD 5 (d := (some 51)) (v := ?_) rfl rfl (by kernel_rfl) (by kernel_rfl) (by kernel_rfl) (by kernel_rfl) (fun _ _ _ h => h) ?_ (by assumption) ?_
      rotate_left
      · intro ww hSw; (try dsimp only at hSw); first | (go_simp; done) | (go_simp; with_reducible rfl)
      simp only [Act.put, List.setIfInBounds_toArray, List.set_cons_zero, List.set_cons_succ]
      refine wpAnyH_takeD 6 (d := (some 52)) (v := ?_) rfl rfl (by kernel_rfl) (by kernel_rfl) (by kernel_rfl) (by kernel_rfl) (fun _ _ _ h => h) ?_ (by assumption) ?_
      rotate_left
      · intro ww hSw; (try dsimp only at hSw); first | (go_simp; done) | (go_simp; with_reducible rfl)
      simp only [Act.put, List.setIfInBounds_toArray, List.set_cons_zero, List.set_cons_succ]
      refine wpAnyH_takeD 7 (d := (some 53)) (v := ?_) rfl rfl (by kernel_rfl) (by kernel_rfl) (by kernel_rfl) (by kernel_rfl) (fun _ _ _ h => h) ?_ (by assumption) ?_
      rotate_left
      · intro ww hSw; (try dsimp only at hSw); first | (go_simp; done) | (go_simp; with_reducible rfl)
      simp only [Act.put, List.setIfInBounds_toArray, List.set_cons_zero, List.set_cons_succ]
      refine wpAnyH_takeD 8 (d := (some 54)) (v := ?_) rfl rfl (by kernel_rfl) (by kernel_rfl) (by kernel_rfl) (by kernel_rfl) (fun _ _ _ h => h) ?_ (by assumption) ?_
      rotate_left
      · intro ww hSw; (try dsimp only at hSw); first | (go_simp; done) | (go_simp; with_reducible rfl)
      simp only [Act.put, List.setIfInBounds_toArray, List.set_cons_zero, List.set_cons_succ]
      refine wpAnyH_skip 9 (d := (some 55)) (by kernel_rfl) (by kernel_rfl) (by kernel_rfl) (by kernel_rfl) (fun _ _ _ h => h) (by assumption) ?_
      simp only [Act.put, List.setIfInBounds_toArray, List.set_cons_zero, List.set_cons_succ]
      refine wpAnyH_skip 10 (d := (some 56)) (by kernel_rfl) (by kernel_rfl) (by kernel_rfl) (by kernel_rfl) (fun _ _ _ h => h) (by assumption) ?_
      simp only [Act.put, List.setIfInBounds_toArray, List.set_cons_zero, List.set_cons_succ]
      refine wpAnyH_skip 11 (d := (some 57)) (by kernel_rfl) (by kernel_rfl) (by kernel_rfl) (by kernel_rfl) (fun _ _ _ h => h) (by assumption) ?_
      simp only [Act.put, List.setIfInBounds_toArray, List.set_cons_zero, List.set_cons_succ]
      refine wpAnyH_takeD 12 (d := (some 58)) (v := ?_) rfl rfl (by kernel_rfl) (by kernel_rfl) (by kernel_rfl) (by kernel_rfl) (fun _ _ _ h => h) ?_ (by assumption) ?_
      rotate_left
      · intro ww hSw; (try dsimp only at hSw); first | (go_simp; done) | (go_simp; with_reducible rfl)
      simp only [Act.put, List.setIfInBounds_toArray, List.set_cons_zero, List.set_cons_succ]
      refine wpAnyH_takeD 13 (d := (some 59)) (v := ?_) rfl rfl (by kernel_rfl) (by kernel_rfl) (by kernel_rfl) (by kernel_rfl) (fun _ _ _ h => h) ?_ (by assumption) ?_
      rotate_left
      · intro ww hSw; (try dsimp only at hSw); first | (go_simp; done) | (go_simp; with_reducible rfl)
      simp only [Act.put, List.setIfInBounds_toArray, List.set_cons_zero, List.set_cons_succ]
      refine wpAnyH_skip 14 (d := (some 60)) (by kernel_rfl) (by kernel_rfl) (by kernel_rfl) (by kernel_rfl) (fun _ _ _ h => h) (by assumption) ?_
      simp only [Act.put, List.setIfInBounds_toArray, List.set_cons_zero, List.set_cons_succ]
      refine wpAnyH_skip 15 (d := (some 61)) (by kernel_rfl) (by kernel_rfl) (by kernel_rfl) (by kernel_rfl) (fun _ _ _ h => h) (by assumption) ?_
      simp only [Act.put, List.setIfInBounds_toArray, List.set_cons_zero, List.set_cons_succ]
      refine wpAnyH_skip 16 (d := (some 62)) (by kernel_rfl) (by kernel_rfl) (by kernel_rfl) (by kernel_rfl) (fun _ _ _ h => h) (by assumption) ?_
      simp only [Act.put, List.setIfInBounds_toArray, List.set_cons_zero, List.set_cons_succ]
      refine wpAnyH_takeD 17 (d := (some 63)) (v := ?_) rfl rfl (by kernel_rfl) (by kernel_rfl) (by kernel_rfl) (by kernel_rfl) (fun _ _ _ h => h) ?_ (by assumption) ?_
      rotate_left
      · intro ww hSw; (try dsimp only at hSw); first | (go_simp; done) | (go_simp; with_reducible rfl)
      simp only [Act.put, List.setIfInBounds_toArray, List.set_cons_zero, List.set_cons_succ]
      refine wpAnyH_takeD 18 (d := (some 64)) (v := ?_) rfl rfl (by kernel_rfl) (by kernel_rfl) (by kernel_rfl) (by kernel_rfl) (fun _ _ _ h => h) ?_ (by assumption) ?_
      rotate_left
      · intro ww hSw; (try dsimp only at hSw); first | (go_simp; done) | (go_simp; with_reducible rfl)
      simp only [Act.put, List.setIfInBounds_toArray, List.set_cons_zero, List.set_cons_succ]
      refine wpAnyH_skip 19 (d := (some 65)) (by kernel_rfl) (by kernel_rfl) (by kernel_rfl) (by kernel_rfl) (fun _ _ _ h => h) (by assumption) ?_
      simp only [Act.put, List.setIfInBounds_toArray, List.set_cons_zero, List.set_cons_succ]
      refine wpAnyH_skip 20 (d := (some 66)) (by kernel_rfl) (by kernel_rfl) (by kernel_rfl) (by kernel_rfl) (fun _ _ _ h => h) (by assumption) ?_
      simp only [Act.put, List.setIfInBounds_toArray, List.set_cons_zero, List.set_cons_succ]
      refine wpAnyH_skip 21 (d := (some 67)) (by kernel_rfl) (by kernel_rfl) (by kernel_rfl) (by kernel_rfl) (fun _ _ _ h => h) (by assumption) ?_
      simp only [Act.put, List.setIfInBounds_toArray, List.set_cons_zero, List.set_cons_succ]
      refine wpAnyH_skip 22 (d := (some 68)) (by kernel_rfl) (by kernel_rfl) (by kernel_rfl) (by kernel_rfl) (fun _ _ _ h => h) (by assumption) ?_
      simp only [Act.put, List.setIfInBounds_toArray, List.set_cons_zero, List.set_cons_succ]
      refine wpAnyH_skip 23 (d := (some 69)) (by kernel_rfl) (by kernel_rfl) (by kernel_rfl) (by kernel_rfl) (fun _ _ _ h => h) (by assumption) ?_
      simp only [Act.put, List.setIfInBounds_toArray, List.set_cons_zero, List.set_cons_succ]
      refine wpAnyH_skip 24 (d := (some 70)) (by kernel_rfl) (by kernel_rfl) (by kernel_rfl) (by kernel_rfl) (fun _ _ _ h => h) (by assumption) ?_
      simp only [Act.put, List.setIfInBounds_toArray, List.set_cons_zero, List.set_cons_succ]
      refine wpAnyH_skip 25 (d := (some 71)) (by kernel_rfl) (by kernel_rfl) (by kernel_rfl) (by kernel_rfl) (fun _ _ _ h => h) (by assumption) ?_
      simp only [Act.put, List.setIfInBounds_toArray, List.set_cons_zero, List.set_cons_succ]
      refine wpAnyH_skip 26 (d := (some 72)) (by kernel_rfl) (by kernel_rfl) (by kernel_rfl) (by kernel_rfl) (fun _ _ _ h => h) (by assumption) ?_
      simp only [Act.put, List.setIfInBounds_toArray, List.set_cons_zero, List.set_cons_succ]
      refine wpAnyH_takeD 27 (d := (some 73)) (v := ?_) rfl rfl (by kernel_rfl) (by kernel_rfl) (by kernel_rfl) (by kernel_rfl) (fun _ _ _ h => h) ?_ (by assumption) ?_
      rotate_left
      · intro ww hSw; (try dsimp only at hSw); first | (go_simp; done) | (go_simp; with_reducible rfl)
      simp only [Act.put, List.setIfInBounds_toArray, List.set_cons_zero, List.set_cons_succ]
      refine wpAnyH_takeD 28 (d := (some 74)) (v := ?_) rfl rfl (by kernel_rfl) (by kernel_rfl) (by kernel_rfl) (by kernel_rfl) (fun _ _ _ h => h) ?_ (by assumption) ?_
      rotate_left
      · intro ww hSw; (try dsimp only at hSw); first | (go_simp; done) | (go_simp; with_reducible rfl)
      simp only [Act.put, List.setIfInBounds_toArray, List.set_cons_zero, List.set_cons_succ]
      refine wpAnyH_skip 29 (d := (some 75)) (by kernel_rfl) (by kernel_rfl) (by kernel_rfl) (by kernel_rfl) (fun _ _ _ h => h) (by assumption) ?_
      simp only [Act.put, List.setIfInBounds_toArray, List.set_cons_zero, List.set_cons_succ]
      refine wpAnyH_skip 30 (d := (some 76)) (by kernel_rfl) (by kernel_rfl) (by kernel_rfl) (by kernel_rfl) (fun _ _ _ h => h) (by assumption) ?_
      simp only [Act.put, List.setIfInBounds_toArray, List.set_cons_zero, List.set_cons_succ]
      refine wpAnyH_skip 31 (d := (some 77)) (by kernel_rfl) (by kernel_rfl) (by kernel_rfl) (by kernel_rfl) (fun _ _ _ h => h) (by assumption) ?_
      simp only [Act.put, List.setIfInBounds_toArray, List.set_cons_zero, List.set_cons_succ]
      refine wpAnyH_skip 32 (d := (some 78)) (by kernel_rfl) (by kernel_rfl) (by kernel_rfl) (by kernel_rfl) (fun _ _ _ h => h) (by assumption) ?_
      simp only [Act.put, List.setIfInBounds_toArray, List.set_cons_zero, List.set_cons_succ]
      refine wpAnyH_skip 33 (d := (some 79)) (by kernel_rfl) (by kernel_rfl) (by kernel_rfl) (by kernel_rfl) (fun _ _ _ h => h) (by assumption) ?_
      simp only [Act.put, List.setIfInBounds_toArray, List.set_cons_zero, List.set_cons_succ]
      refine wpAnyH_skip 34 (d := (some 80)) (by kernel_rfl) (by kernel_rfl) (by kernel_rfl) (by kernel_rfl) (fun _ _ _ h => h) (by assumption) ?_
      simp only [Act.put, List.setIfInBounds_toArray, List.set_cons_zero, List.set_cons_succ]
      refine wpAnyH_skip 35 (d := (some 81)) (by kernel_rfl) (by kernel_rfl) (by kernel_rfl) (by kernel_rfl) (fun _ _ _ h => h) (by assumption) ?_
      simp only [Act.put, List.setIfInBounds_toArray, List.set_cons_zero, List.set_cons_succ]
      refine wpAnyH_takeD 36 (d := (some 82)) (v := ?_) rfl rfl (by kernel_rfl) (by kernel_rfl) (by kernel_rfl) (by kernel_rfl) (fun _ _ _ h => h) ?_ (by assumption) ?_
      rotate_left
      · intro ww hSw; (try dsimp only at hSw); first | (go_simp; done) | (go_simp; with_reducible rfl)
      simp only [Act.put, List.setIfInBounds_toArray, List.set_cons_zero, List.set_cons_succ]
      refine wpAnyH_done (by kernel_rfl) ?_ _
      generalize W3.drew = W4 at *
      have c0 := HZ.out.r.c 0 _ rfl
      have c1' := HZ.out.r.c 1 _ rfl
      have c2 := HZ.out.r.c 2 _ rfl
      have c3 := HZ.out.r.c 3 _ rfl
      have f0 := HZ.out.r.f 0
      have f1 := HZ.out.r.f 1
      have f2 := HZ.out.r.f 2
      have f3 := HZ.out.r.f 3
      have HZ2 := Lib.hid HZ.out.zero
      go_wp2_with fail
      generalize World.setCell _ ⟨w.heap.size, 3, none⟩ (.slice none 0 0) = V at *
      clear c0 c1' c2 c3 f0 f1 f2 f3
      have e0 := HZ2.out.1.c 0 _ rfl
      have e1 := HZ2.out.1.c 1 _ rfl
      have e2 := HZ2.out.1.c 2 _ rfl
      have e3 := HZ2.out.1.c 3 _ rfl
      exact bodyPost_ret (v := .tuple #[zimV, .int .i64 6]) (by simp [results, Try.results26, go_sem, e0, e1, e2, e3, zimV]) rfl (FNO.out _ HNO.out HZ2.out.2)
    by_cases g3 : q < 1
    · skip
      have a1 : decide ((p : Int) < 1) = false := decide_eq_false (by omega)
      have a1n : decide (p < 1) = false := decide_eq_false (by omega)
      have a2 : decide ((256 : Int) < (p : Int)) = false := decide_eq_false (by omega)
      have a2n : decide (256 < p) = false := decide_eq_false (by omega)
      have a3 : decide ((q : Int) < 1) = true := decide_eq_true (by omega)
      have a3n : decide (q < 1) = true := decide_eq_true (by omega)
      refine wp_region_held_drew (S := (fun w' => w'.cell? ⟨w.heap.size + 1, 0, none⟩ = some (.int .i64 (p : Int)) ∧ w'.cell? ⟨w.heap.size + 1, 1, none⟩ = some (.int .i64 (q : Int)) ∧ w'.cell? ⟨w.heap.size + 1, 2, none⟩ = some (.int .i64 (x16 : Int)) ∧ w'.cell? ⟨w.heap.size + 1, 3, none⟩ = some (.slice none 0 0))) (by kernel_rfl) ?_ (fun hHeld => ?_)
      · refine ⟨?_, ?_, ?_, ?_⟩ <;> (first | with_reducible assumption | (rw [hby.cell (by (try dsimp only); omega)]; with_reducible assumption) | (go_keep; done))
      refine wpAnyH_takeD 0 (d := (some 46)) (v := ?_) rfl rfl (by kernel_rfl) (by kernel_rfl) (by kernel_rfl) (by kernel_rfl) (fun _ _ _ h => h) ?_ (by assumption) ?_
      rotate_left
      · intro ww hSw; (try dsimp only at hSw); first | (go_simp; done) | (go_simp; with_reducible rfl)
      simp only [Act.put, List.setIfInBounds_toArray, List.set_cons_zero, List.set_cons_succ]
      refine wpAnyH_takeD 1 (d := (some 47)) (v := ?_) rfl rfl (by kernel_rfl) (by kernel_rfl) (by kernel_rfl) (by kernel_rfl) (fun _ _ _ h => h) ?_ (by assumption) ?_
      rotate_left
      · intro ww hSw; (try dsimp only at hSw); first | (go_simp; done) | (go_simp; with_reducible rfl)
      simp only [Act.put, List.setIfInBounds_toArray, List.set_cons_zero, List.set_cons_succ]
      refine wpAnyH_takeD 2 (d := (some 48)) (v := ?_) rfl rfl (by kernel_rfl) (by kernel_rfl) (by kernel_rfl) (by kernel_rfl) (fun _ _ _ h => h) ?_ (by assumption) ?_
      rotate_left
      · intro ww hSw; (try dsimp only at hSw); first | (go_simp; done) | (go_simp; with_reducible rfl)
      simp only [Act.put, List.setIfInBounds_toArray, List.set_cons_zero, List.set_cons_succ]
      refine wpAnyH_takeD 3 (d := (some 49)) (v := ?_) rfl rfl (by kernel_rfl) (by kernel_rfl) (by kernel_rfl) (by kernel_rfl) (fun _ _ _ h => h) ?_ (by assumption) ?_
      rotate_left
      · intro ww hSw; (try dsimp only at hSw); first | (go_simp; done) | (go_simp; with_reducible rfl)
      simp only [Act.put, List.setIfInBounds_toArray, List.set_cons_zero, List.set_cons_succ]
      refine wpAnyH_takeD 4 (d := (some 50)) (v := ?_) rfl rfl (by kernel_rfl) (by kernel_rfl) (by kernel_rfl) (by kernel_rfl) (fun _ _ _ h => h) ?_ (by assumption) ?_
      rotate_left
      · intro ww hSw; (try dsimp only at hSw); first | (go_simp; done) | (go_simp; with_reducible rfl)
      simp only [Act.put, List.setIfInBounds_toArray, List.set_cons_zero, List.set_cons_succ]
      refine wpAnyH_takeD 5 (d := (some 51)) (v := ?_) rfl rfl (by kernel_rfl) (by kernel_rfl) (by kernel_rfl) (by kernel_rfl) (fun _ _ _ h => h) ?_ (by assumption) ?_
      rotate_left
      · intro ww hSw; (try dsimp only at hSw); first | (go_simp; done) | (go_simp; with_reducible rfl)
      simp only [Act.put, List.setIfInBounds_toArray, List.set_cons_zero, List.set_cons_succ]
      refine wpAnyH_takeD 6 (d := (some 52)) (v := ?_) rfl rfl (by kernel_rfl) (by kernel_rfl) (by kernel_rfl) (by kernel_rfl) (fun _ _ _ h => h) ?_ (by assumption) ?_
      rotate_left
      · intro ww hSw; (try dsimp only at hSw); first | (go_simp; done) | (go_simp; with_reducible rfl)
      simp only [Act.put, List.setIfInBounds_toArray, List.set_cons_zero, List.set_cons_succ]
      refine wpAnyH_takeD 7 (d := (some 53)) (v := ?_) rfl rfl (by kernel_rfl) (by kernel_rfl) (by kernel_rfl) (by kernel_rfl) (fun _ _ _ h => h) ?_ (by assumption) ?_
      rotate_left
      · intro ww hSw; (try dsimp only at hSw); first | (go_simp; done) | (go_simp; with_reducible rfl)
      simp only [Act.put, List.setIfInBounds_toArray, List.set_cons_zero, List.set_cons_succ]
      refine wpAnyH_takeD 8 (d := (some 54)) (v := ?_) rfl rfl (by kernel_rfl) (by kernel_rfl) (by kernel_rfl) (by kernel_rfl) (fun _ _ _ h => h) ?_ (by assumption) ?_
      rotate_left
      · intro ww hSw; (try dsimp only at hSw); first | (go_simp; done) | (go_simp; with_reducible rfl)
      simp only [Act.put, List.setIfInBounds_toArray, List.set_cons_zero, List.set_cons_succ]
      refine wpAnyH_takeD 9 (d := (some 55)) (v := ?_) rfl rfl (by kernel_rfl) (by kernel_rfl) (by kernel_rfl) (by kernel_rfl) (fun _ _ _ h => h) ?_ (by assumption) ?_
      rotate_left
      · intro ww hSw; (try dsimp only at hSw); first | (go_simp; done) | (go_simp; with_reducible rfl)
      simp only [Act.put, List.setIfInBounds_toArray, List.set_cons_zero, List.set_cons_succ]
      refine wpAnyH_takeD 10 (d := (some 56)) (v := ?_) rfl rfl (by kernel_rfl) (by kernel_rfl) (by kernel_rfl) (by kernel_rfl) (fun _ _ _ h => h) ?_ (by assumption) ?_
      rotate_left
      · intro ww hSw; (try dsimp only at hSw); first | (go_simp; done) | (go_simp; with_reducible rfl)
      simp only [Act.put, List.setIfInBounds_toArray, List.set_cons_zero, List.set_cons_succ]
      refine wpAnyH_takeD 11 (d := (some 57)) (v := ?_) rfl rfl (by kernel_rfl) (by kernel_rfl) (by kernel_rfl) (by kernel_rfl) (fun _ _ _ h => h) ?_ (by assumption) ?_
      rotate_left
      · intro ww hSw; (try dsimp only at hSw); first | (go_simp; done) | (go_simp; with_reducible rfl)
      simp only [Act.put, List.setIfInBounds_toArray, List.set_cons_zero, List.set_cons_succ]
      refine wpAnyH_takeD 12 (d := (some 58)) (v := ?_) rfl rfl (by kernel_rfl) (by kernel_rfl) (by kernel_rfl) (by kernel_rfl) (fun _ _ _ h => h) ?_ (by assumption) ?_
      rotate_left
      · intro ww hSw; (try dsimp only at hSw); first | (go_simp; done) | (go_simp; with_reducible rfl)
      simp only [Act.put, List.setIfInBounds_toArray, List.set_cons_zero, List.set_cons_succ]
      refine wpAnyH_takeD 13 (d := (some 59)) (v := ?_) rfl rfl (by kernel_rfl) (by kernel_rfl) (by kernel_rfl) (by kernel_rfl) (fun _ _ _ h => h) ?_ (by assumption) ?_
      rotate_left
      · intro ww hSw; (try dsimp only at hSw); first | (go_simp; done) | (go_simp; with_reducible rfl)
      simp only [Act.put, List.setIfInBounds_toArray, List.set_cons_zero, List.set_cons_succ]
      refine wpAnyH_skip 14 (d := (some 60)) (by kernel_rfl) (by kernel_rfl) (by kernel_rfl) (by kernel_rfl) (fun _ _ _ h => h) (by assumption) ?_
      simp only [Act.put, List.setIfInBounds_toArray, List.set_cons_zero, List.set_cons_succ]
      refine wpAnyH_skip 15 (d := (some 61)) (by kernel_rfl) (by kernel_rfl) (by kernel_rfl) (by kernel_rfl) (fun _ _ _ h => h) (by assumption) ?_
      simp only [Act.put, List.setIfInBounds_toArray, List.set_cons_zero, List.set_cons_succ]
      refine wpAnyH_skip 16 (d := (some 62)) (by kernel_rfl) (by kernel_rfl) (by kernel_rfl) (by kernel_rfl) (fun _ _ _ h => h) (by assumption) ?_
      simp only [Act.put, List.setIfInBounds_toArray, List.set_cons_zero, List.set_cons_succ]
      refine wpAnyH_takeD 17 (d := (some 63)) (v := ?_) rfl rfl (by kernel_rfl) (by kernel_rfl) (by kernel_rfl) (by kernel_rfl) (fun _ _ _ h => h) ?_ (by assumption) ?_
      rotate_left
      · intro ww hSw; (try dsimp only at hSw); first | (go_simp; done) | (go_simp; with_reducible rfl)
      simp only [Act.put, List.setIfInBounds_toArray, List.set_cons_zero, List.set_cons_succ]
      refine wpAnyH_takeD 18 (d := (some 64)) (v := ?_) rfl rfl (by kernel_rfl) (by kernel_rfl) (by kernel_rfl) (by kernel_rfl) (fun _ _ _ h => h) ?_ (by assumption) ?_
      rotate_left
      · intro ww hSw; (try dsimp only at hSw); first | (go_simp; done) | (go_simp; with_reducible rfl)
      simp only [Act.put, List.setIfInBounds_toArray, List.set_cons_zero, List.set_cons_succ]
      refine wpAnyH_skip 19 (d := (some 65)) (by kernel_rfl) (by kernel_rfl) (by kernel_rfl) (by kernel_rfl) (fun _ _ _ h => h) (by assumption) ?_
      simp only [Act.put, List.setIfInBounds_toArray, List.set_cons_zero, List.set_cons_succ]
      refine wpAnyH_skip 20 (d := (some 66)) (by kernel_rfl) (by kernel_rfl) (by kernel_rfl) (by kernel_rfl) (fun _ _ _ h => h) (by assumption) ?_
      simp only [Act.put, List.setIfInBounds_toArray, List.set_cons_zero, List.set_cons_succ]
      refine wpAnyH_skip 21 (d := (some 67)) (by kernel_rfl) (by kernel_rfl) (by kernel_rfl) (by kernel_rfl) (fun _ _ _ h => h) (by assumption) ?_
      simp only [Act.put, List.setIfInBounds_toArray, List.set_cons_zero, List.set_cons_succ]
      refine wpAnyH_skip 22 (d := (some 68)) (by kernel_rfl) (by kernel_rfl) (by kernel_rfl) (by kernel_rfl) (fun _ _ _ h => h) (by assumption) ?_
      simp only [Act.put, List.setIfInBounds_toArray, List.set_cons_zero, List.set_cons_succ]
      refine wpAnyH_skip 23 (d := (some 69)) (by kernel_rfl) (by kernel_rfl) (by kernel_rfl) (by kernel_rfl) (fun _ _ _ h => h) (by assumption) ?_
      simp only [Act.put, List.setIfInBounds_toArray, List.set_cons_zero, List.set_cons_succ]
      refine wpAnyH_skip 24 (d := (some 70)) (by kernel_rfl) (by kernel_rfl) (by kernel_rfl) (by kernel_rfl) (fun _ _ _ h => h) (by assumption) ?_
      simp only [Act.put, List.setIfInBounds_toArray, List.set_cons_zero, List.set_cons_succ]
      refine wpAnyH_skip 25 (d := (some 71)) (by kernel_rfl) (by kernel_rfl) (by kernel_rfl) (by kernel_rfl) (fun _ _ _ h => h) (by assumption) ?_
      simp only [Act.put, List.setIfInBounds_toArray, List.set_cons_zero, List.set_cons_succ]
      refine wpAnyH_skip 26 (d := (some 72)) (by kernel_rfl) (by kernel_rfl) (by kernel_rfl) (by kernel_rfl) (fun _ _ _ h => h) (by assumption) ?_
      simp only [Act.put, List.setIfInBounds_toArray, List.set_cons_zero, List.set_cons_succ]
      refine wpAnyH_takeD 27 (d := (some 73)) (v := ?_) rfl rfl (by kernel_rfl) (by kernel_rfl) (by kernel_rfl) (by kernel_rfl) (fun _ _ _ h => h) ?_ (by assumption) ?_
      rotate_left
      · intro ww hSw; (try dsimp only at hSw); first | (go_simp; done) | (go_simp; with_reducible rfl)
      simp only [Act.put, List.setIfInBounds_toArray, List.set_cons_zero, List.set_cons_succ]
      refine wpAnyH_takeD 28 (d := (some 74)) (v := ?_) rfl rfl (by kernel_rfl) (by kernel_rfl) (by kernel_rfl) (by kernel_rfl) (fun _ _ _ h => h) ?_ (by assumption) ?_
      rotate_left
      · intro ww hSw; (try dsimp only at hSw); first | (go_simp; done) | (go_simp; with_reducible rfl)
      simp only [Act.put, List.setIfInBounds_toArray, List.set_cons_zero, List.set_cons_succ]
      refine wpAnyH_skip 29 (d := (some 75)) (by kernel_rfl) (by kernel_rfl) (by kernel_rfl) (by kernel_rfl) (fun _ _ _ h => h) (by assumption) ?_
      simp only [Act.put, List.setIfInBounds_toArray, List.set_cons_zero, List.set_cons_succ]
      refine wpAnyH_skip 30 (d := (some 76)) (by kernel_rfl) (by kernel_rfl) (by kernel_rfl) (by kernel_rfl) (fun _ _ _ h => h) (by assumption) ?_
      simp only [Act.put, List.setIfInBounds_toArray, List.set_cons_zero, List.set_cons_succ]
      refine wpAnyH_skip 31 (d := (some 77)) (by kernel_rfl) (by kernel_rfl) (by kernel_rfl) (by kernel_rfl) (fun _ _ _ h => h) (by assumption) ?_
      simp only [Act.put, List.setIfInBounds_toArray, List.set_cons_zero, List.set_cons_succ]
      refine wpAnyH_skip 32 (d := (some 78)) (by kernel_rfl) (by kernel_rfl) (by kernel_rfl) (by kernel_rfl) (fun _ _ _ h => h) (by assumption) ?_
      simp only [Act.put, List.setIfInBounds_toArray, List.set_cons_zero, List.set_cons_succ]
      refine wpAnyH_skip 33 (d := (some 79)) (by kernel_rfl) (by kernel_rfl) (by kernel_rfl) (by kernel_rfl) (fun _ _ _ h => h) (by assumption) ?_
      simp only [Act.put, List.setIfInBounds_toArray, List.set_cons_zero, List.set_cons_succ]
      refine wpAnyH_skip 34 (d := (some 80)) (by kernel_rfl) (by kernel_rfl) (by kernel_rfl) (by kernel_rfl) (fun _ _ _ h => h) (by assumption) ?_
      simp only [Act.put, List.setIfInBounds_toArray, List.set_cons_zero, List.set_cons_succ]
      refine wpAnyH_skip 35 (d := (some 81)) (by kernel_rfl) (by kernel_rfl) (by kernel_rfl) (by kernel_rfl) (fun _ _ _ h => h) (by assumption) ?_
      simp only [Act.put, List.setIfInBounds_toArray, List.set_cons_zero, List.set_cons_succ]
      refine wpAnyH_takeD 36 (d := (some 82)) (v := ?_) rfl rfl (by kernel_rfl) (by kernel_rfl) (by kernel_rfl) (by kernel_rfl) (fun _ _ _ h => h) ?_ (by assumption) ?_
      rotate_left
      · intro ww hSw; (try dsimp only at hSw); first | (go_simp; done) | (go_simp; with_reducible rfl)
      simp only [Act.put, List.setIfInBounds_toArray, List.set_cons_zero, List.set_cons_succ]
      refine wpAnyH_done (by kernel_rfl) ?_ _
      generalize W3.drew = W4 at *
      have c0 := HZ.out.r.c 0 _ rfl
      have c1' := HZ.out.r.c 1 _ rfl
      have c2 := HZ.out.r.c 2 _ rfl
      have c3 := HZ.out.r.c 3 _ rfl
      have f0 := HZ.out.r.f 0
      have f1 := HZ.out.r.f 1
      have f2 := HZ.out.r.f 2
      have f3 := HZ.out.r.f 3
      have HZ2 := Lib.hid HZ.out.zero
      go_wp2_with fail
      generalize World.setCell _ ⟨w.heap.size, 3, none⟩ (.slice none 0 0) = V at *
      clear c0 c1' c2 c3 f0 f1 f2 f3
      have e0 := HZ2.out.1.c 0 _ rfl
      have e1 := HZ2.out.1.c 1 _ rfl
      have e2 := HZ2.out.1.c 2 _ rfl
      have e3 := HZ2.out.1.c 3 _ rfl
      exact bodyPost_ret (v := .tuple #[zimV, .int .i64 6]) (by simp [results, Try.results26, go_sem, e0, e1, e2, e3, zimV]) rfl (FNO.out _ HNO.out HZ2.out.2)
    by_cases g4 : 256 < q
    · skip
      have a1 : decide ((p : Int) < 1) = false := decide_eq_false (by omega)
      have a1n : decide (p < 1) = false := decide_eq_false (by omega)
      have a2 : decide ((256 : Int) < (p : Int)) = false := decide_eq_false (by omega)
      have a2n : decide (256 < p) = false := decide_eq_false (by omega)
      have a3 : decide ((q : Int) < 1) = false := decide_eq_false (by omega)
      have a3n : decide (q < 1) = false := decide_eq_false (by omega)
      have a4 : decide ((256 : Int) < (q : Int)) = true := decide_eq_true (by omega)
      have a4n : decide (256 < q) = true := decide_eq_true (by omega)
      refine wp_region_held_drew (S := (fun w' => w'.cell? ⟨w.heap.size + 1, 0, none⟩ = some (.int .i64 (p : Int)) ∧ w'.cell? ⟨w.heap.size + 1, 1, none⟩ = some (.int .i64 (q : Int)) ∧ w'.cell? ⟨w.heap.size + 1, 2, none⟩ = some (.int .i64 (x16 : Int)) ∧ w'.cell? ⟨w.heap.size + 1, 3, none⟩ = some (.slice none 0 0))) (by kernel_rfl) ?_ (fun hHeld => ?_)
      · refine ⟨?_, ?_, ?_, ?_⟩ <;> (first | with_reducible assumption | (rw [hby.cell (by (try dsimp only); omega)]; with_reducible assumption) | (go_keep; done))
      refine wpAnyH_takeD 0 (d := (some 46)) (v := ?_) rfl rfl (by kernel_rfl) (by kernel_rfl) (by kernel_rfl) (by kernel_rfl) (fun _ _ _ h => h) ?_ (by assumption) ?_
      rotate_left
      · intro ww hSw; (try dsimp only at hSw); first | (go_simp; done) | (go_simp; with_reducible rfl)
      simp only [Act.put, List.setIfInBounds_toArray, List.set_cons_zero, List.set_cons_succ]
      refine wpAnyH_takeD 1 (d := (some 47)) (v := ?_) rfl rfl (by kernel_rfl) (by kernel_rfl) (by kernel_rfl) (by kernel_rfl) (fun _ _ _ h => h) ?_ (by assumption) ?_
      rotate_left
      · intro ww hSw; (try dsimp only at hSw); first | (go_simp; done) | (go_simp; with_reducible rfl)
      simp only [Act.put, List.setIfInBounds_toArray, List.set_cons_zero, List.set_cons_succ]
      refine wpAnyH_takeD 2 (d := (some 48)) (v := ?_) rfl rfl (by kernel_rfl) (by kernel_rfl) (by kernel_rfl) (by kernel_rfl) (fun _ _ _ h => h) ?_ (by assumption) ?_
      rotate_left
      · intro ww hSw; (try dsimp only at hSw); first | (go_simp; done) | (go_simp; with_reducible rfl)
      simp only [Act.put, List.setIfInBounds_toArray, List.set_cons_zero, List.set_cons_succ]
      refine wpAnyH_takeD 3 (d := (some 49)) (v := ?_) rfl rfl (by kernel_rfl) (by kernel_rfl) (by kernel_rfl) (by kernel_rfl) (fun _ _ _ h => h) ?_ (by assumption) ?_
      rotate_left
      · intro ww hSw; (try dsimp only at hSw); first | (go_simp; done) | (go_simp; with_reducible rfl)
      simp only [Act.put, List.setIfInBounds_toArray, List.set_cons_zero, List.set_cons_succ]
      refine wpAnyH_takeD 4 (d := (some 50)) (v := ?_) rfl rfl (by kernel_rfl) (by kernel_rfl) (by kernel_rfl) (by kernel_rfl) (fun _ _ _ h => h) ?_ (by assumption) ?_
      rotate_left
      · intro ww hSw; (try dsimp only at hSw); first | (go_simp; done) | (go_simp; with_reducible rfl)
      simp only [Act.put, List.setIfInBounds_toArray, List.set_cons_zero, List.set_cons_succ]
      refine wpAnyH_takeD 5 (d := (some 51)) (v := ?_) rfl rfl (by kernel_rfl) (by kernel_rfl) (by kernel_rfl) (by kernel_rfl) (fun _ _ _ h => h) ?_ (by assumption) ?_
      rotate_left
      · intro ww hSw; (try dsimp only at hSw); first | (go_simp; done) | (go_simp; with_reducible rfl)
      simp only [Act.put, List.setIfInBounds_toArray, List.set_cons_zero, List.set_cons_succ]
      refine wpAnyH_takeD 6 (d := (some 52)) (v := ?_) rfl rfl (by kernel_rfl) (by kernel_rfl) (by kernel_rfl) (by kernel_rfl) (fun _ _ _ h => h) ?_ (by assumption) ?_
      rotate_left
      · intro ww hSw; (try dsimp only at hSw); first | (go_simp; done) | (go_simp; with_reducible rfl)
      simp only [Act.put, List.setIfInBounds_toArray, List.set_cons_zero, List.set_cons_succ]
      refine wpAnyH_takeD 7 (d := (some 53)) (v := ?_) rfl rfl (by kernel_rfl) (by kernel_rfl) (by kernel_rfl) (by kernel_rfl) (fun _ _ _ h => h) ?_ (by assumption) ?_
      rotate_left
      · intro ww hSw; (try dsimp only at hSw); first | (go_simp; done) | (go_simp; with_reducible rfl)
      simp only [Act.put, List.setIfInBounds_toArray, List.set_cons_zero, List.set_cons_succ]
      refine wpAnyH_takeD 8 (d := (some 54)) (v := ?_) rfl rfl (by kernel_rfl) (by kernel_rfl) (by kernel_rfl) (by kernel_rfl) (fun _ _ _ h => h) ?_ (by assumption) ?_
      rotate_left
      · intro ww hSw; (try dsimp only at hSw); first | (go_simp; done) | (go_simp; with_reducible rfl)
      simp only [Act.put, List.setIfInBounds_toArray, List.set_cons_zero, List.set_cons_succ]
      refine wpAnyH_takeD 9 (d := (some 55)) (v := ?_) rfl rfl (by kernel_rfl) (by kernel_rfl) (by kernel_rfl) (by kernel_rfl) (fun _ _ _ h => h) ?_ (by assumption) ?_
      rotate_left
      · intro ww hSw; (try dsimp only at hSw); first | (go_simp; done) | (go_simp; with_reducible rfl)
      simp only [Act.put, List.setIfInBounds_toArray, List.set_cons_zero, List.set_cons_succ]
      refine wpAnyH_takeD 10 (d := (some 56)) (v := ?_) rfl rfl (by kernel_rfl) (by kernel_rfl) (by kernel_rfl) (by kernel_rfl) (fun _ _ _ h => h) ?_ (by assumption) ?_
      rotate_left
      · intro ww hSw; (try dsimp only at hSw); first | (go_simp; done) | (go_simp; with_reducible rfl)
      simp only [Act.put, List.setIfInBounds_toArray, List.set_cons_zero, List.set_cons_succ]
      refine wpAnyH_takeD 11 (d := (some 57)) (v := ?_) rfl rfl (by kernel_rfl) (by kernel_rfl) (by kernel_rfl) (by kernel_rfl) (fun _ _ _ h => h) ?_ (by assumption) ?_
      rotate_left
      · intro ww hSw; (try dsimp only at hSw); first | (go_simp; done) | (go_simp; with_reducible rfl)
      simp only [Act.put, List.setIfInBounds_toArray, List.set_cons_zero, List.set_cons_succ]
      refine wpAnyH_takeD 12 (d := (some 58)) (v := ?_) rfl rfl (by kernel_rfl) (by kernel_rfl) (by kernel_rfl) (by kernel_rfl) (fun _ _ _ h => h) ?_ (by assumption) ?_
      rotate_left
      · intro ww hSw; (try dsimp only at hSw); first | (go_simp; done) | (go_simp; with_reducible rfl)
      simp only [Act.put, List.setIfInBounds_toArray, List.set_cons_zero, List.set_cons_succ]
      refine wpAnyH_takeD 13 (d := (some 59)) (v := ?_) rfl rfl (by kernel_rfl) (by kernel_rfl) (by kernel_rfl) (by kernel_rfl) (fun _ _ _ h => h) ?_ (by assumption) ?_
      rotate_left
      · intro ww hSw; (try dsimp only at hSw); first | (go_simp; done) | (go_simp; with_reducible rfl)
      simp only [Act.put, List.setIfInBounds_toArray, List.set_cons_zero, List.set_cons_succ]
      refine wpAnyH_takeD 14 (d := (some 60)) (v := ?_) rfl rfl (by kernel_rfl) (by kernel_rfl) (by kernel_rfl) (by kernel_rfl) (fun _ _ _ h => h) ?_ (by assumption) ?_
      rotate_left
      · intro ww hSw; (try dsimp only at hSw); first | (go_simp; done) | (go_simp; with_reducible rfl)
      simp only [Act.put, List.setIfInBounds_toArray, List.set_cons_zero, List.set_cons_succ]
      refine wpAnyH_takeD 15 (d := (some 61)) (v := ?_) rfl rfl (by kernel_rfl) (by kernel_rfl) (by kernel_rfl) (by kernel_rfl) (fun _ _ _ h => h) ?_ (by assumption) ?_
      rotate_left
      · intro ww hSw; (try dsimp only at hSw); first | (go_simp; done) | (go_simp; with_reducible rfl)
      simp only [Act.put, List.setIfInBounds_toArray, List.set_cons_zero, List.set_cons_succ]
      refine wpAnyH_takeD 16 (d := (some 62)) (v := ?_) rfl rfl (by kernel_rfl) (by kernel_rfl) (by kernel_rfl) (by kernel_rfl) (fun _ _ _ h => h) ?_ (by assumption) ?_
      rotate_left
      · intro ww hSw; (try dsimp only at hSw); first | (go_simp; done) | (go_simp; with_reducible rfl)
      simp only [Act.put, List.setIfInBounds_toArray, List.set_cons_zero, List.set_cons_succ]
      refine wpAnyH_takeD 17 (d := (some 63)) (v := ?_) rfl rfl (by kernel_rfl) (by kernel_rfl) (by kernel_rfl) (by kernel_rfl) (fun _ _ _ h => h) ?_ (by assumption) ?_
      rotate_left
      · intro ww hSw; (try dsimp only at hSw); first | (go_simp; done) | (go_simp; with_reducible rfl)
      simp only [Act.put, List.setIfInBounds_toArray, List.set_cons_zero, List.set_cons_succ]
      refine wpAnyH_takeD 18 (d := (some 64)) (v := ?_) rfl rfl (by kernel_rfl) (by kernel_rfl) (by kernel_rfl) (by kernel_rfl) (fun _ _ _ h => h) ?_ (by assumption) ?_
      rotate_left
      · intro ww hSw; (try dsimp only at hSw); first | (go_simp; done) | (go_simp; with_reducible rfl)
      simp only [Act.put, List.setIfInBounds_toArray, List.set_cons_zero, List.set_cons_succ]
      refine wpAnyH_skip 19 (d := (some 65)) (by kernel_rfl) (by kernel_rfl) (by kernel_rfl) (by kernel_rfl) (fun _ _ _ h => h) (by assumption) ?_
      simp only [Act.put, List.setIfInBounds_toArray, List.set_cons_zero, List.set_cons_succ]
      refine wpAnyH_skip 20 (d := (some 66)) (by kernel_rfl) (by kernel_rfl) (by kernel_rfl) (by kernel_rfl) (fun _ _ _ h => h) (by assumption) ?_
      simp only [Act.put, List.setIfInBounds_toArray, List.set_cons_zero, List.set_cons_succ]
      refine wpAnyH_skip 21 (d := (some 67)) (by kernel_rfl) (by kernel_rfl) (by kernel_rfl) (by kernel_rfl) (fun _ _ _ h => h) (by assumption) ?_
      simp only [Act.put, List.setIfInBounds_toArray, List.set_cons_zero, List.set_cons_succ]
      refine wpAnyH_skip 22 (d := (some 68)) (by kernel_rfl) (by kernel_rfl) (by kernel_rfl) (by kernel_rfl) (fun _ _ _ h => h) (by assumption) ?_
      simp only [Act.put, List.setIfInBounds_toArray, List.set_cons_zero, List.set_cons_succ]
      refine wpAnyH_skip 23 (d := (some 69)) (by kernel_rfl) (by kernel_rfl) (by kernel_rfl) (by kernel_rfl) (fun _ _ _ h => h) (by assumption) ?_
      simp only [Act.put, List.setIfInBounds_toArray, List.set_cons_zero, List.set_cons_succ]
      refine wpAnyH_skip 24 (d := (some 70)) (by kernel_rfl) (by kernel_rfl) (by kernel_rfl) (by kernel_rfl) (fun _ _ _ h => h) (by assumption) ?_
      simp only [Act.put, List.setIfInBounds_toArray, List.set_cons_zero, List.set_cons_succ]
      refine wpAnyH_skip 25 (d := (some 71)) (by kernel_rfl) (by kernel_rfl) (by kernel_rfl) (by kernel_rfl) (fun _ _ _ h => h) (by assumption) ?_
      simp only [Act.put, List.setIfInBounds_toArray, List.set_cons_zero, List.set_cons_succ]
      refine wpAnyH_skip 26 (d := (some 72)) (by kernel_rfl) (by kernel_rfl) (by kernel_rfl) (by kernel_rfl) (fun _ _ _ h => h) (by assumption) ?_
      simp only [Act.put, List.setIfInBounds_toArray, List.set_cons_zero, List.set_cons_succ]
      refine wpAnyH_takeD 27 (d := (some 73)) (v := ?_) rfl rfl (by kernel_rfl) (by kernel_rfl) (by kernel_rfl) (by kernel_rfl) (fun _ _ _ h => h) ?_ (by assumption) ?_
      rotate_left
      · intro ww hSw; (try dsimp only at hSw); first | (go_simp; done) | (go_simp; with_reducible rfl)
      simp only [Act.put, List.setIfInBounds_toArray, List.set_cons_zero, List.set_cons_succ]
      refine wpAnyH_takeD 28 (d := (some 74)) (v := ?_) rfl rfl (by kernel_rfl) (by kernel_rfl) (by kernel_rfl) (by kernel_rfl) (fun _ _ _ h => h) ?_ (by assumption) ?_
      rotate_left
      · intro ww hSw; (try dsimp only at hSw); first | (go_simp; done) | (go_simp; with_reducible rfl)
      simp only [Act.put, List.setIfInBounds_toArray, List.set_cons_zero, List.set_cons_succ]
      refine wpAnyH_skip 29 (d := (some 75)) (by kernel_rfl) (by kernel_rfl) (by kernel_rfl) (by kernel_rfl) (fun _ _ _ h => h) (by assumption) ?_
      simp only [Act.put, List.setIfInBounds_toArray, List.set_cons_zero, List.set_cons_succ]
      refine wpAnyH_skip 30 (d := (some 76)) (by kernel_rfl) (by kernel_rfl) (by kernel_rfl) (by kernel_rfl) (fun _ _ _ h => h) (by assumption) ?_
      simp only [Act.put, List.setIfInBounds_toArray, List.set_cons_zero, List.set_cons_succ]
      refine wpAnyH_skip 31 (d := (some 77)) (by kernel_rfl) (by kernel_rfl) (by kernel_rfl) (by kernel_rfl) (fun _ _ _ h => h) (by assumption) ?_
      simp only [Act.put, List.setIfInBounds_toArray, List.set_cons_zero, List.set_cons_succ]
      refine wpAnyH_skip 32 (d := (some 78)) (by kernel_rfl) (by kernel_rfl) (by kernel_rfl) (by kernel_rfl) (fun _ _ _ h => h) (by assumption) ?_
      simp only [Act.put, List.setIfInBounds_toArray, List.set_cons_zero, List.set_cons_succ]
      refine wpAnyH_skip 33 (d := (some 79)) (by kernel_rfl) (by kernel_rfl) (by kernel_rfl) (by kernel_rfl) (fun _ _ _ h => h) (by assumption) ?_
      simp only [Act.put, List.setIfInBounds_toArray, List.set_cons_zero, List.set_cons_succ]
      refine wpAnyH_skip 34 (d := (some 80)) (by kernel_rfl) (by kernel_rfl) (by kernel_rfl) (by kernel_rfl) (fun _ _ _ h => h) (by assumption) ?_
      simp only [Act.put, List.setIfInBounds_toArray, List.set_cons_zero, List.set_cons_succ]
      refine wpAnyH_skip 35 (d := (some 81)) (by kernel_rfl) (by kernel_rfl) (by kernel_rfl) (by kernel_rfl) (fun _ _ _ h => h) (by assumption) ?_
      simp only [Act.put, List.setIfInBounds_toArray, List.set_cons_zero, List.set_cons_succ]
      refine wpAnyH_takeD 36 (d := (some 82)) (v := ?_) rfl rfl (by kernel_rfl) (by kernel_rfl) (by kernel_rfl) (by kernel_rfl) (fun _ _ _ h => h) ?_ (by assumption) ?_
      rotate_left
      · intro ww hSw; (try dsimp only at hSw); first | (go_simp; done) | (go_simp; with_reducible rfl)
      simp only [Act.put, List.setIfInBounds_toArray, List.set_cons_zero, List.set_cons_succ]
      refine wpAnyH_done (by kernel_rfl) ?_ _
      generalize W3.drew = W4 at *
      have c0 := HZ.out.r.c 0 _ rfl
      have c1' := HZ.out.r.c 1 _ rfl
      have c2 := HZ.out.r.c 2 _ rfl
      have c3 := HZ.out.r.c 3 _ rfl
      have f0 := HZ.out.r.f 0
      have f1 := HZ.out.r.f 1
      have f2 := HZ.out.r.f 2
      have f3 := HZ.out.r.f 3
      have HZ2 := Lib.hid HZ.out.zero
      go_wp2_with fail
      generalize World.setCell _ ⟨w.heap.size, 3, none⟩ (.slice none 0 0) = V at *
      clear c0 c1' c2 c3 f0 f1 f2 f3
      have e0 := HZ2.out.1.c 0 _ rfl
      have e1 := HZ2.out.1.c 1 _ rfl
      have e2 := HZ2.out.1.c 2 _ rfl
      have e3 := HZ2.out.1.c 3 _ rfl
      exact bodyPost_ret (v := .tuple #[zimV, .int .i64 6]) (by simp [results, Try.results26, go_sem, e0, e1, e2, e3, zimV]) rfl (FNO.out _ HNO.out HZ2.out.2)
    have a1 : decide ((p : Int) < 1) = false := decide_eq_false (by omega)
    have a1n : decide (p < 1) = false := decide_eq_false (by omega)
    have a2 : decide ((256 : Int) < (p : Int)) = false := decide_eq_false (by omega)
    have a2n : decide (256 < p) = false := decide_eq_false (by omega)
    have a3 : decide ((q : Int) < 1) = false := decide_eq_false (by omega)
    have a3n : decide (q < 1) = false := decide_eq_false (by omega)
    have a4 : decide ((256 : Int) < (q : Int)) = false := decide_eq_false (by omega)
    have a4n : decide (256 < q) = false := decide_eq_false (by omega)
    have t24 : ((x16 : Int) != 24) = true := by rw [bne_iff_ne]; omega
    have t32 : ((x16 : Int) != 32) = true := by rw [bne_iff_ne]; omega
    refine wp_region_held_drew (S := (fun w' => w'.cell? ⟨w.heap.size + 1, 0, none⟩ = some (.int .i64 (p : Int)) ∧ w'.cell? ⟨w.heap.size + 1, 1, none⟩ = some (.int .i64 (q : Int)) ∧ w'.cell? ⟨w.heap.size + 1, 2, none⟩ = some (.int .i64 (x16 : Int)) ∧ w'.cell? ⟨w.heap.size + 1, 3, none⟩ = some (.slice none 0 0))) (by kernel_rfl) ?_ (fun hHeld => ?_)
    · refine ⟨?_, ?_, ?_, ?_⟩ <;> (first | with_reducible assumption | (rw [hby.cell (by (try dsimp only); omega)]; with_reducible assumption) | (go_keep; done))
    refine wpAnyH_takeD 0 (d := (some 46)) (v := ?_) rfl rfl (by kernel_rfl) (by kernel_rfl) (by kernel_rfl) (by kernel_rfl) (fun _ _ _ h => h) ?_ (by assumption) ?_
    rotate_left
    · intro ww hSw; (try dsimp only at hSw); first | (go_simp; done) | (go_simp; with_reducible rfl)
    simp only [Act.put, List.setIfInBounds_toArray, List.set_cons_zero, List.set_cons_succ]
    refine wpAnyH_takeD 1 (d := (some 47)) (v := ?_) rfl rfl (by kernel_rfl) (by kernel_rfl) (by kernel_rfl) (by kernel_rfl) (fun _ _ _ h => h) ?_ (by assumption) ?_
    rotate_left
    · intro ww hSw; (try dsimp only at hSw); first | (go_simp; done) | (go_simp; with_reducible rfl)
    simp only [Act.put, List.setIfInBounds_toArray, List.set_cons_zero, List.set_cons_succ]
    refine wpAnyH_takeD 2 (d := (some 48)) (v := ?_) rfl rfl (by kernel_rfl) (by kernel_rfl) (by kernel_rfl) (by kernel_rfl) (fun _ _ _ h => h) ?_ (by assumption) ?_
    rotate_left
    · intro ww hSw; (try dsimp only at hSw); first | (go_simp; done) | (go_simp; with_reducible rfl)
    simp only [Act.put, List.setIfInBounds_toArray, List.set_cons_zero, List.set_cons_succ]
    refine wpAnyH_takeD 3 (d := (some 49)) (v := ?_) rfl rfl (by kernel_rfl) (by kernel_rfl) (by kernel_rfl) (by kernel_rfl) (fun _ _ _ h => h) ?_ (by assumption) ?_
    rotate_left
    · intro ww hSw; (try dsimp only at hSw); first | (go_simp; done) | (go_simp; with_reducible rfl)
    simp only [Act.put, List.setIfInBounds_toArray, List.set_cons_zero, List.set_cons_succ]
    refine wpAnyH_takeD 4 (d := (some 50)) (v := ?_) rfl rfl (by kernel_rfl) (by kernel_rfl) (by kernel_rfl) (by kernel_rfl) (fun _ _ _ h => h) ?_ (by assumption) ?_
    rotate_left
    · intro ww hSw; (try dsimp only at hSw); first | (go_simp; done) | (go_simp; with_reducible rfl)
    simp only [Act.put, List.setIfInBounds_toArray, List.set_cons_zero, List.set_cons_succ]
    refine wpAnyH_takeD 5 (d := (some 51)) (v := ?_) rfl rfl (by kernel_rfl) (by kernel_rfl) (by kernel_rfl) (by kernel_rfl) (fun _ _ _ h => h) ?_ (by assumption) ?_
    rotate_left
    · intro ww hSw; (try dsimp only at hSw); first | (go_simp; done) | (go_simp; with_reducible rfl)
    simp only [Act.put, List.setIfInBounds_toArray, List.set_cons_zero, List.set_cons_succ]
    refine wpAnyH_takeD 6 (d := (some 52)) (v := ?_) rfl rfl (by kernel_rfl) (by kernel_rfl) (by kernel_rfl) (by kernel_rfl) (fun _ _ _ h => h) ?_ (by assumption) ?_
    rotate_left
    · intro ww hSw; (try dsimp only at hSw); first | (go_simp; done) | (go_simp; with_reducible rfl)
    simp only [Act.put, List.setIfInBounds_toArray, List.set_cons_zero, List.set_cons_succ]
    refine wpAnyH_takeD 7 (d := (some 53)) (v := ?_) rfl rfl (by kernel_rfl) (by kernel_rfl) (by kernel_rfl) (by kernel_rfl) (fun _ _ _ h => h) ?_ (by assumption) ?_
    rotate_left
    · intro ww hSw; (try dsimp only at hSw); first | (go_simp; done) | (go_simp; with_reducible rfl)
    simp only [Act.put, List.setIfInBounds_toArray, List.set_cons_zero, List.set_cons_succ]
    refine wpAnyH_takeD 8 (d := (some 54)) (v := ?_) rfl rfl (by kernel_rfl) (by kernel_rfl) (by kernel_rfl) (by kernel_rfl) (fun _ _ _ h => h) ?_ (by assumption) ?_
    rotate_left
    · intro ww hSw; (try dsimp only at hSw); first | (go_simp; done) | (go_simp; with_reducible rfl)
    simp only [Act.put, List.setIfInBounds_toArray, List.set_cons_zero, List.set_cons_succ]
    refine wpAnyH_takeD 9 (d := (some 55)) (v := ?_) rfl rfl (by kernel_rfl) (by kernel_rfl) (by kernel_rfl) (by kernel_rfl) (fun _ _ _ h => h) ?_ (by assumption) ?_
    rotate_left
    · intro ww hSw; (try dsimp only at hSw); first | (go_simp; done) | (go_simp; with_reducible rfl)
    simp only [Act.put, List.setIfInBounds_toArray, List.set_cons_zero, List.set_cons_succ]
    refine wpAnyH_takeD 10 (d := (some 56)) (v := ?_) rfl rfl (by kernel_rfl) (by kernel_rfl) (by kernel_rfl) (by kernel_rfl) (fun _ _ _ h => h) ?_ (by assumption) ?_
    rotate_left
    · intro ww hSw; (try dsimp only at hSw); first | (go_simp; done) | (go_simp; with_reducible rfl)
    simp only [Act.put, List.setIfInBounds_toArray, List.set_cons_zero, List.set_cons_succ]
    refine wpAnyH_takeD 11 (d := (some 57)) (v := ?_) rfl rfl (by kernel_rfl) (by kernel_rfl) (by kernel_rfl) (by kernel_rfl) (fun _ _ _ h => h) ?_ (by assumption) ?_
    rotate_left
    · intro ww hSw; (try dsimp only at hSw); first | (go_simp; done) | (go_simp; with_reducible rfl)
    simp only [Act.put, List.setIfInBounds_toArray, List.set_cons_zero, List.set_cons_succ]
    refine wpAnyH_takeD 12 (d := (some 58)) (v := ?_) rfl rfl (by kernel_rfl) (by kernel_rfl) (by kernel_rfl) (by kernel_rfl) (fun _ _ _ h => h) ?_ (by assumption) ?_
    rotate_left
    · intro ww hSw; (try dsimp only at hSw); first | (go_simp; done) | (go_simp; with_reducible rfl)
    simp only [Act.put, List.setIfInBounds_toArray, List.set_cons_zero, List.set_cons_succ]
    refine wpAnyH_takeD 13 (d := (some 59)) (v := ?_) rfl rfl (by kernel_rfl) (by kernel_rfl) (by kernel_rfl) (by kernel_rfl) (fun _ _ _ h => h) ?_ (by assumption) ?_
    rotate_left
    · intro ww hSw; (try dsimp only at hSw); first | (go_simp; done) | (go_simp; with_reducible rfl)
    simp only [Act.put, List.setIfInBounds_toArray, List.set_cons_zero, List.set_cons_succ]
    refine wpAnyH_takeD 14 (d := (some 60)) (v := ?_) rfl rfl (by kernel_rfl) (by kernel_rfl) (by kernel_rfl) (by kernel_rfl) (fun _ _ _ h => h) ?_ (by assumption) ?_
    rotate_left
    · intro ww hSw; (try dsimp only at hSw); first | (go_simp; done) | (go_simp; with_reducible rfl)
    simp only [Act.put, List.setIfInBounds_toArray, List.set_cons_zero, List.set_cons_succ]
    refine wpAnyH_takeD 15 (d := (some 61)) (v := ?_) rfl rfl (by kernel_rfl) (by kernel_rfl) (by kernel_rfl) (by kernel_rfl) (fun _ _ _ h => h) ?_ (by assumption) ?_
    rotate_left
    · intro ww hSw; (try dsimp only at hSw); first | (go_simp; done) | (go_simp; with_reducible rfl)
    simp only [Act.put, List.setIfInBounds_toArray, List.set_cons_zero, List.set_cons_succ]
    refine wpAnyH_takeD 16 (d := (some 62)) (v := ?_) rfl rfl (by kernel_rfl) (by kernel_rfl) (by kernel_rfl) (by kernel_rfl) (fun _ _ _ h => h) ?_ (by assumption) ?_
    rotate_left
    · intro ww hSw; (try dsimp only at hSw); first | (go_simp; done) | (go_simp; with_reducible rfl)
    simp only [Act.put, List.setIfInBounds_toArray, List.set_cons_zero, List.set_cons_succ]
    refine wpAnyH_takeD 17 (d := (some 63)) (v := ?_) rfl rfl (by kernel_rfl) (by kernel_rfl) (by kernel_rfl) (by kernel_rfl) (fun _ _ _ h => h) ?_ (by assumption) ?_
    rotate_left
    · intro ww hSw; (try dsimp only at hSw); first | (go_simp; done) | (go_simp; with_reducible rfl)
    simp only [Act.put, List.setIfInBounds_toArray, List.set_cons_zero, List.set_cons_succ]
    refine wpAnyH_takeD 18 (d := (some 64)) (v := ?_) rfl rfl (by kernel_rfl) (by kernel_rfl) (by kernel_rfl) (by kernel_rfl) (fun _ _ _ h => h) ?_ (by assumption) ?_
    rotate_left
    · intro ww hSw; (try dsimp only at hSw); first | (go_simp; done) | (go_simp; with_reducible rfl)
    simp only [Act.put, List.setIfInBounds_toArray, List.set_cons_zero, List.set_cons_succ]
    refine wpAnyH_takeD 19 (d := (some 65)) (v := ?_) rfl rfl (by kernel_rfl) (by kernel_rfl) (by kernel_rfl) (by kernel_rfl) (fun _ _ _ h => h) ?_ (by assumption) ?_
    rotate_left
    · intro ww hSw; (try dsimp only at hSw); first | (go_simp; done) | (go_simp; with_reducible rfl)
    simp only [Act.put, List.setIfInBounds_toArray, List.set_cons_zero, List.set_cons_succ]
    refine wpAnyH_takeD 20 (d := (some 66)) (v := ?_) rfl rfl (by kernel_rfl) (by kernel_rfl) (by kernel_rfl) (by kernel_rfl) (fun _ _ _ h => h) ?_ (by assumption) ?_
    rotate_left
    · intro ww hSw; (try dsimp only at hSw); first | (go_simp; done) | (go_simp; with_reducible rfl)
    simp only [Act.put, List.setIfInBounds_toArray, List.set_cons_zero, List.set_cons_succ]
    refine wpAnyH_takeD 21 (d := (some 67)) (v := ?_) rfl rfl (by kernel_rfl) (by kernel_rfl) (by kernel_rfl) (by kernel_rfl) (fun _ _ _ h => h) ?_ (by assumption) ?_
    rotate_left
    · intro ww hSw; (try dsimp only at hSw); first | (go_simp; done) | (go_simp; with_reducible rfl)
    simp only [Act.put, List.setIfInBounds_toArray, List.set_cons_zero, List.set_cons_succ]
    refine wpAnyH_takeD 22 (d := (some 68)) (v := ?_) rfl rfl (by kernel_rfl) (by kernel_rfl) (by kernel_rfl) (by kernel_rfl) (fun _ _ _ h => h) ?_ (by assumption) ?_
    rotate_left
    · intro ww hSw; (try dsimp only at hSw); first | (go_simp; done) | (go_simp; with_reducible rfl)
    simp only [Act.put, List.setIfInBounds_toArray, List.set_cons_zero, List.set_cons_succ]
    refine wpAnyH_takeD 23 (d := (some 69)) (v := ?_) rfl rfl (by kernel_rfl) (by kernel_rfl) (by kernel_rfl) (by kernel_rfl) (fun _ _ _ h => h) ?_ (by assumption) ?_
    rotate_left
    · intro ww hSw; (try dsimp only at hSw); first | (go_simp; done) | (go_simp; with_reducible rfl)
    simp only [Act.put, List.setIfInBounds_toArray, List.set_cons_zero, List.set_cons_succ]
    refine wpAnyH_takeD 24 (d := (some 70)) (v := ?_) rfl rfl (by kernel_rfl) (by kernel_rfl) (by kernel_rfl) (by kernel_rfl) (fun _ _ _ h => h) ?_ (by assumption) ?_
    rotate_left
    · intro ww hSw; (try dsimp only at hSw); first | (go_simp; done) | (go_simp; with_reducible rfl)
    simp only [Act.put, List.setIfInBounds_toArray, List.set_cons_zero, List.set_cons_succ]
    refine wpAnyH_takeD 25 (d := (some 71)) (v := ?_) rfl rfl (by kernel_rfl) (by kernel_rfl) (by kernel_rfl) (by kernel_rfl) (fun _ _ _ h => h) ?_ (by assumption) ?_
    rotate_left
    · intro ww hSw; (try dsimp only at hSw); first | (go_simp; done) | (go_simp; with_reducible rfl)
    simp only [Act.put, List.setIfInBounds_toArray, List.set_cons_zero, List.set_cons_succ]
    refine wpAnyH_takeD 26 (d := (some 72)) (v := ?_) rfl rfl (by kernel_rfl) (by kernel_rfl) (by kernel_rfl) (by kernel_rfl) (fun _ _ _ h => h) ?_ (by assumption) ?_
    rotate_left
    · intro ww hSw; (try dsimp only at hSw); first | (go_simp; done) | (go_simp; with_reducible rfl)
    simp only [Act.put, List.setIfInBounds_toArray, List.set_cons_zero, List.set_cons_succ]
    refine wpAnyH_takeD 27 (d := (some 73)) (v := ?_) rfl rfl (by kernel_rfl) (by kernel_rfl) (by kernel_rfl) (by kernel_rfl) (fun _ _ _ h => h) ?_ (by assumption) ?_
    rotate_left
    · intro ww hSw; (try dsimp only at hSw); first | (go_simp; done) | (go_simp; with_reducible rfl)
    simp only [Act.put, List.setIfInBounds_toArray, List.set_cons_zero, List.set_cons_succ]
    refine wpAnyH_takeD 28 (d := (some 74)) (v := ?_) rfl rfl (by kernel_rfl) (by kernel_rfl) (by kernel_rfl) (by kernel_rfl) (fun _ _ _ h => h) ?_ (by assumption) ?_
    rotate_left
    · intro ww hSw; (try dsimp only at hSw); first | (go_simp; done) | (go_simp; with_reducible rfl)
    simp only [Act.put, List.setIfInBounds_toArray, List.set_cons_zero, List.set_cons_succ]
    refine wpAnyH_skip 29 (d := (some 75)) (by kernel_rfl) (by kernel_rfl) (by kernel_rfl) (by kernel_rfl) (fun _ _ _ h => h) (by assumption) ?_
    simp only [Act.put, List.setIfInBounds_toArray, List.set_cons_zero, List.set_cons_succ]
    refine wpAnyH_skip 30 (d := (some 76)) (by kernel_rfl) (by kernel_rfl) (by kernel_rfl) (by kernel_rfl) (fun _ _ _ h => h) (by assumption) ?_
    simp only [Act.put, List.setIfInBounds_toArray, List.set_cons_zero, List.set_cons_succ]
    refine wpAnyH_skip 31 (d := (some 77)) (by kernel_rfl) (by kernel_rfl) (by kernel_rfl) (by kernel_rfl) (fun _ _ _ h => h) (by assumption) ?_
    simp only [Act.put, List.setIfInBounds_toArray, List.set_cons_zero, List.set_cons_succ]
    refine wpAnyH_skip 32 (d := (some 78)) (by kernel_rfl) (by kernel_rfl) (by kernel_rfl) (by kernel_rfl) (fun _ _ _ h => h) (by assumption) ?_
    simp only [Act.put, List.setIfInBounds_toArray, List.set_cons_zero, List.set_cons_succ]
    refine wpAnyH_skip 33 (d := (some 79)) (by kernel_rfl) (by kernel_rfl) (by kernel_rfl) (by kernel_rfl) (fun _ _ _ h => h) (by assumption) ?_
    simp only [Act.put, List.setIfInBounds_toArray, List.set_cons_zero, List.set_cons_succ]
    refine wpAnyH_skip 34 (d := (some 80)) (by kernel_rfl) (by kernel_rfl) (by kernel_rfl) (by kernel_rfl) (fun _ _ _ h => h) (by assumption) ?_
    simp only [Act.put, List.setIfInBounds_toArray, List.set_cons_zero, List.set_cons_succ]
    refine wpAnyH_skip 35 (d := (some 81)) (by kernel_rfl) (by kernel_rfl) (by kernel_rfl) (by kernel_rfl) (fun _ _ _ h => h) (by assumption) ?_
    simp only [Act.put, List.setIfInBounds_toArray, List.set_cons_zero, List.set_cons_succ]
    refine wpAnyH_takeD 36 (d := (some 82)) (v := ?_) rfl rfl (by kernel_rfl) (by kernel_rfl) (by kernel_rfl) (by kernel_rfl) (fun _ _ _ h => h) ?_ (by assumption) ?_
    rotate_left
    · intro ww hSw; (try dsimp only at hSw); first | (go_simp; done) | (go_simp; with_reducible rfl)
    simp only [Act.put, List.setIfInBounds_toArray, List.set_cons_zero, List.set_cons_succ]
    refine wpAnyH_done (by kernel_rfl) ?_ _
    generalize W3.drew = W4 at *
    have c0 := HZ.out.r.c 0 _ rfl
    have c1' := HZ.out.r.c 1 _ rfl
    have c2 := HZ.out.r.c 2 _ rfl
    have c3 := HZ.out.r.c 3 _ rfl
    have f0 := HZ.out.r.f 0
    have f1 := HZ.out.r.f 1
    have f2 := HZ.out.r.f 2
    have f3 := HZ.out.r.f 3
    have HZ2 := Lib.hid HZ.out.zero
    go_wp2_with fail
    generalize World.setCell _ ⟨w.heap.size, 3, none⟩ (.slice none 0 0) = V at *
    clear c0 c1' c2 c3 f0 f1 f2 f3
    have e0 := HZ2.out.1.c 0 _ rfl
    have e1 := HZ2.out.1.c 1 _ rfl
    have e2 := HZ2.out.1.c 2 _ rfl
    have e3 := HZ2.out.1.c 3 _ rfl
    exact bodyPost_ret (v := .tuple #[zimV, .int .i64 6]) (by simp [results, Try.results26, go_sem, e0, e1, e2, e3, zimV]) rfl (FNO.out _ HNO.out HZ2.out.2)
  | true =>
    unfold formT at hf
    rw [decide_eq_true_iff] at hf
    obtain ⟨z, hz, hxz⟩ : ∃ z : Nat, (z = 3 ∨ z = 4) ∧ x16 = 8 * z := by
      rcases hf.2.2.2.2 with h | h
      · exact ⟨3, .inl rfl, by omega⟩
      · exact ⟨4, .inr rfl, by omega⟩
    have KH := Lib.hid (fun W => headref_any p q z none 0 0 pk tp W (by omega) (by omega) hz)
    rw [← hxz] at KH
    unfold imV SR at KH
    have hp1 : 1 ≤ p := by omega
    have hp2 : p ≤ 256 := by omega
    have hq1 : 1 ≤ q := by omega
    have hq2 : q ≤ 256 := by omega
    have a1 : decide ((p : Int) < 1) = false := decide_eq_false (by omega)
    have a1n : decide (p < 1) = false := decide_eq_false (by omega)
    have a2 : decide ((256 : Int) < (p : Int)) = false := decide_eq_false (by omega)
    have a2n : decide (256 < p) = false := decide_eq_false (by omega)
    have a3 : decide ((q : Int) < 1) = false := decide_eq_false (by omega)
    have a3n : decide (q < 1) = false := decide_eq_false (by omega)
    have a4 : decide ((256 : Int) < (q : Int)) = false := decide_eq_false (by omega)
    have a4n : decide (256 < q) = false := decide_eq_false (by omega)
    have hsl := run_sl_to (P := Try.prog) 9 s 18 18 rfl h18 Try.underlying9
    have HFM : Hid (getT s = if s.take 18 = headT p q z pk tp then (match rowsT pk z p q (s.drop 18) with | none => none | some o => if o.2 = footT then some ⟨p, q, z, dataT z tp o.1⟩ else none) else none) := Lib.hid (by
      unfold getT headOk
      have hft : formT (p : Int) (q : Int) (x16 : Int) = true := by unfold formT; rw [decide_eq_true_iff]; exact hf
      rw [HB.out.1, HB.out.2.1, HB.out.2.2, hft, ← HPK.out, ← HTP.out, if_neg (by omega), show x16 / 8 = z by omega]
      simp only [Bool.true_and, beq_iff_eq]
      rfl)
    have HHK : Hid (headOk s = (s.take 18 == headT p q z pk tp)) := Lib.hid (by
      unfold headOk
      have hft : formT (p : Int) (q : Int) (x16 : Int) = true := by unfold formT; rw [decide_eq_true_iff]; exact hf
      rw [HB.out.1, HB.out.2.1, HB.out.2.2, hft, ← HPK.out, ← HTP.out, show x16 / 8 = z by omega]
      rfl)
    have HXZ := Lib.hid hxz
    have HZ34 := Lib.hid hz
    clear hf hxz hz HB HPK HTP
    generalize htk : s.take 18 = TK at *
    generalize hhd : headT p q z pk tp = HD at *
    have HTK := Lib.hid (⟨htk, hhd⟩ : _ ∧ _)
    clear htk hhd
    have b24c : (x16 = 24) ∨ (x16 = 32) := by have := HXZ.out; have := HZ34.out; omega
    have h9 : ¬ TK = HD := by
      intro e
      have := HHO.out
      rw [HHK.out, e] at this
      simp at this
    have t9 : (TK == HD) = false := by rw [beq_eq_false_iff_ne]; exact h9
    have HNO : Hid (getT s = none) := Lib.hid (by rw [HFM.out, if_neg h9])
    clear HFM FYES h9
    rcases b24c with h24 | h32
    · have t24 : ((x16 : Int) != 24) = false := by rw [h24]; rfl
      clear h24
      refine wp_region_held_drew (S := (fun w' => w'.cell? ⟨w.heap.size + 1, 0, none⟩ = some (.int .i64 (p : Int)) ∧ w'.cell? ⟨w.heap.size + 1, 1, none⟩ = some (.int .i64 (q : Int)) ∧ w'.cell? ⟨w.heap.size + 1, 2, none⟩ = some (.int .i64 (x16 : Int)) ∧ w'.cell? ⟨w.heap.size + 1, 3, none⟩ = some (.slice none 0 0))) (by kernel_rfl) ?_ (fun hHeld => ?_)
      · refine ⟨?_, ?_, ?_, ?_⟩ <;> (first | with_reducible assumption | (rw [hby.cell (by (try dsimp only); omega)]; with_reducible assumption) | (go_keep; done))
      refine wpAnyH_takeD 0 (d := (some 46)) (v := ?_) rfl rfl (by kernel_rfl) (by kernel_rfl) (by kernel_rfl) (by kernel_rfl) (fun _ _ _ h => h) ?_ (by assumption) ?_
      rotate_left
      · intro ww hSw; (try dsimp only at hSw); first | (go_simp; done) | (go_simp; with_reducible rfl)
      simp only [Act.put, List.setIfInBounds_toArray, List.set_cons_zero, List.set_cons_succ]
      refine wpAnyH_takeD 1 (d := (some 47)) (v := ?_) rfl rfl (by kernel_rfl) (by kernel_rfl) (by kernel_rfl) (by kernel_rfl) (fun _ _ _ h => h) ?_ (by assumption) ?_
      rotate_left
      · intro ww hSw; (try dsimp only at hSw); first | (go_simp; done) | (go_simp; with_reducible rfl)
      simp only [Act.put, List.setIfInBounds_toArray, List.set_cons_zero, List.set_cons_succ]
      refine wpAnyH_takeD 2 (d := (some 48)) (v := ?_) rfl rfl (by kernel_rfl) (by kernel_rfl) (by kernel_rfl) (by kernel_rfl) (fun _ _ _ h => h) ?_ (by assumption) ?_
      rotate_left
      · intro ww hSw; (try dsimp only at hSw); first | (go_simp; done) | (go_simp; with_reducible rfl)
      simp only [Act.put, List.setIfInBounds_toArray, List.set_cons_zero, List.set_cons_succ]
      refine wpAnyH_takeD 3 (d := (some 49)) (v := ?_) rfl rfl (by kernel_rfl) (by kernel_rfl) (by kernel_rfl) (by kernel_rfl) (fun _ _ _ h => h) ?_ (by assumption) ?_
      rotate_left
      · intro ww hSw; (try dsimp only at hSw); first | (go_simp; done) | (go_simp; with_reducible rfl)
      simp only [Act.put, List.setIfInBounds_toArray, List.set_cons_zero, List.set_cons_succ]
      refine wpAnyH_takeD 4 (d := (some 50)) (v := ?_) rfl rfl (by kernel_rfl) (by kernel_rfl) (by kernel_rfl) (by kernel_rfl) (fun _ _ _ h => h) ?_ (by assumption) ?_
      rotate_left
      · intro ww hSw; (try dsimp only at hSw); first | (go_simp; done) | (go_simp; with_reducible rfl)
      simp only [Act.put, List.setIfInBounds_toArray, List.set_cons_zero, List.set_cons_succ]
      refine wpAnyH_takeD 5 (d := (some 51)) (v := ?_) rfl rfl (by kernel_rfl) (by kernel_rfl) (by kernel_rfl) (by kernel_rfl) (fun _ _ _ h => h) ?_ (by assumption) ?_
      rotate_left
      · intro ww hSw; (try dsimp only at hSw); first | (go_simp; done) | (go_simp; with_reducible rfl)
      simp only [Act.put, List.setIfInBounds_toArray, List.set_cons_zero, List.set_cons_succ]
      refine wpAnyH_takeD 6 (d := (some 52)) (v := ?_) rfl rfl (by kernel_rfl) (by kernel_rfl) (by kernel_rfl) (by kernel_rfl) (fun _ _ _ h => h) ?_ (by assumption) ?_
      rotate_left
      · intro ww hSw; (try dsimp only at hSw); first | (go_simp; done) | (go_simp; with_reducible rfl)
      simp only [Act.put, List.setIfInBounds_toArray, List.set_cons_zero, List.set_cons_succ]
      refine wpAnyH_takeD 7 (d := (some 53)) (v := ?_) rfl rfl (by kernel_rfl) (by kernel_rfl) (by kernel_rfl) (by kernel_rfl) (fun _ _ _ h => h) ?_ (by assumption) ?_
      rotate_left
      · intro ww hSw; (try dsimp only at hSw); first | (go_simp; done) | (go_simp; with_reducible rfl)
      simp only [Act.put, List.setIfInBounds_toArray, List.set_cons_zero, List.set_cons_succ]
      refine wpAnyH_takeD 8 (d := (some 54)) (v := ?_) rfl rfl (by kernel_rfl) (by kernel_rfl) (by kernel_rfl) (by kernel_rfl) (fun _ _ _ h => h) ?_ (by assumption) ?_
      rotate_left
      · intro ww hSw; (try dsimp only at hSw); first | (go_simp; done) | (go_simp; with_reducible rfl)
      simp only [Act.put, List.setIfInBounds_toArray, List.set_cons_zero, List.set_cons_succ]
      refine wpAnyH_takeD 9 (d := (some 55)) (v := ?_) rfl rfl (by kernel_rfl) (by kernel_rfl) (by kernel_rfl) (by kernel_rfl) (fun _ _ _ h => h) ?_ (by assumption) ?_
      rotate_left
      · intro ww hSw; (try dsimp only at hSw); first | (go_simp; done) | (go_simp; with_reducible rfl)
      simp only [Act.put, List.setIfInBounds_toArray, List.set_cons_zero, List.set_cons_succ]
      refine wpAnyH_takeD 10 (d := (some 56)) (v := ?_) rfl rfl (by kernel_rfl) (by kernel_rfl) (by kernel_rfl) (by kernel_rfl) (fun _ _ _ h => h) ?_ (by assumption) ?_
      rotate_left
      · intro ww hSw; (try dsimp only at hSw); first | (go_simp; done) | (go_simp; with_reducible rfl)
      simp only [Act.put, List.setIfInBounds_toArray, List.set_cons_zero, List.set_cons_succ]
      refine wpAnyH_takeD 11 (d := (some 57)) (v := ?_) rfl rfl (by kernel_rfl) (by kernel_rfl) (by kernel_rfl) (by kernel_rfl) (fun _ _ _ h => h) ?_ (by assumption) ?_
      rotate_left
      · intro ww hSw; (try dsimp only at hSw); first | (go_simp; done) | (go_simp; with_reducible rfl)
      simp only [Act.put, List.setIfInBounds_toArray, List.set_cons_zero, List.set_cons_succ]
      refine wpAnyH_takeD 12 (d := (some 58)) (v := ?_) rfl rfl (by kernel_rfl) (by kernel_rfl) (by kernel_rfl) (by kernel_rfl) (fun _ _ _ h => h) ?_ (by assumption) ?_
      rotate_left
      · intro ww hSw; (try dsimp only at hSw); first | (go_simp; done) | (go_simp; with_reducible rfl)
      simp only [Act.put, List.setIfInBounds_toArray, List.set_cons_zero, List.set_cons_succ]
      refine wpAnyH_takeD 13 (d := (some 59)) (v := ?_) rfl rfl (by kernel_rfl) (by kernel_rfl) (by kernel_rfl) (by kernel_rfl) (fun _ _ _ h => h) ?_ (by assumption) ?_
      rotate_left
      · intro ww hSw; (try dsimp only at hSw); first | (go_simp; done) | (go_simp; with_reducible rfl)
      simp only [Act.put, List.setIfInBounds_toArray, List.set_cons_zero, List.set_cons_succ]
      refine wpAnyH_takeD 14 (d := (some 60)) (v := ?_) rfl rfl (by kernel_rfl) (by kernel_rfl) (by kernel_rfl) (by kernel_rfl) (fun _ _ _ h => h) ?_ (by assumption) ?_
      rotate_left
      · intro ww hSw; (try dsimp only at hSw); first | (go_simp; done) | (go_simp; with_reducible rfl)
      simp only [Act.put, List.setIfInBounds_toArray, List.set_cons_zero, List.set_cons_succ]
      refine wpAnyH_takeD 15 (d := (some 61)) (v := ?_) rfl rfl (by kernel_rfl) (by kernel_rfl) (by kernel_rfl) (by kernel_rfl) (fun _ _ _ h => h) ?_ (by assumption) ?_
      rotate_left
      · intro ww hSw; (try dsimp only at hSw); first | (go_simp; done) | (go_simp; with_reducible rfl)
      simp only [Act.put, List.setIfInBounds_toArray, List.set_cons_zero, List.set_cons_succ]
      refine wpAnyH_takeD 16 (d := (some 62)) (v := ?_) rfl rfl (by kernel_rfl) (by kernel_rfl) (by kernel_rfl) (by kernel_rfl) (fun _ _ _ h => h) ?_ (by assumption) ?_
      rotate_left
      · intro ww hSw; (try dsimp only at hSw); first | (go_simp; done) | (go_simp; with_reducible rfl)
      simp only [Act.put, List.setIfInBounds_toArray, List.set_cons_zero, List.set_cons_succ]
      refine wpAnyH_takeD 17 (d := (some 63)) (v := ?_) rfl rfl (by kernel_rfl) (by kernel_rfl) (by kernel_rfl) (by kernel_rfl) (fun _ _ _ h => h) ?_ (by assumption) ?_
      rotate_left
      · intro ww hSw; (try dsimp only at hSw); first | (go_simp; done) | (go_simp; with_reducible rfl)
      simp only [Act.put, List.setIfInBounds_toArray, List.set_cons_zero, List.set_cons_succ]
      refine wpAnyH_takeD 18 (d := (some 64)) (v := ?_) rfl rfl (by kernel_rfl) (by kernel_rfl) (by kernel_rfl) (by kernel_rfl) (fun _ _ _ h => h) ?_ (by assumption) ?_
      rotate_left
      · intro ww hSw; (try dsimp only at hSw); first | (go_simp; done) | (go_simp; with_reducible rfl)
      simp only [Act.put, List.setIfInBounds_toArray, List.set_cons_zero, List.set_cons_succ]
      refine wpAnyH_takeD 19 (d := (some 65)) (v := ?_) rfl rfl (by kernel_rfl) (by kernel_rfl) (by kernel_rfl) (by kernel_rfl) (fun _ _ _ h => h) ?_ (by assumption) ?_
      rotate_left
      · intro ww hSw; (try dsimp only at hSw); first | (go_simp; done) | (go_simp; with_reducible rfl)
      simp only [Act.put, List.setIfInBounds_toArray, List.set_cons_zero, List.set_cons_succ]
      refine wpAnyH_takeD 20 (d := (some 66)) (v := ?_) rfl rfl (by kernel_rfl) (by kernel_rfl) (by kernel_rfl) (by kernel_rfl) (fun _ _ _ h => h) ?_ (by assumption) ?_
      rotate_left
      · intro ww hSw; (try dsimp only at hSw); first | (go_simp; done) | (go_simp; with_reducible rfl)
      simp only [Act.put, List.setIfInBounds_toArray, List.set_cons_zero, List.set_cons_succ]
      refine wpAnyH_takeD 21 (d := (some 67)) (v := ?_) rfl rfl (by kernel_rfl) (by kernel_rfl) (by kernel_rfl) (by kernel_rfl) (fun _ _ _ h => h) ?_ (by assumption) ?_
      rotate_left
      · intro ww hSw; (try dsimp only at hSw); first | (go_simp; done) | (go_simp; with_reducible rfl)
      simp only [Act.put, List.setIfInBounds_toArray, List.set_cons_zero, List.set_cons_succ]
      refine wpAnyH_takeD 22 (d := (some 68)) (v := ?_) rfl rfl (by kernel_rfl) (by kernel_rfl) (by kernel_rfl) (by kernel_rfl) (fun _ _ _ h => h) ?_ (by assumption) ?_
      rotate_left
      · intro ww hSw; (try dsimp only at hSw); first | (go_simp; done) | (go_simp; with_reducible rfl)
      simp only [Act.put, List.setIfInBounds_toArray, List.set_cons_zero, List.set_cons_succ]
      refine wpAnyH_skip 23 (d := (some 69)) (by kernel_rfl) (by kernel_rfl) (by kernel_rfl) (by kernel_rfl) (fun _ _ _ h => h) (by assumption) ?_
      simp only [Act.put, List.setIfInBounds_toArray, List.set_cons_zero, List.set_cons_succ]
      refine wpAnyH_skip 24 (d := (some 70)) (by kernel_rfl) (by kernel_rfl) (by kernel_rfl) (by kernel_rfl) (fun _ _ _ h => h) (by assumption) ?_
      simp only [Act.put, List.setIfInBounds_toArray, List.set_cons_zero, List.set_cons_succ]
      refine wpAnyH_skip 25 (d := (some 71)) (by kernel_rfl) (by kernel_rfl) (by kernel_rfl) (by kernel_rfl) (fun _ _ _ h => h) (by assumption) ?_
      simp only [Act.put, List.setIfInBounds_toArray, List.set_cons_zero, List.set_cons_succ]
      refine wpAnyH_takeD 26 (d := (some 72)) (v := ?_) rfl rfl (by kernel_rfl) (by kernel_rfl) (by kernel_rfl) (by kernel_rfl) (fun _ _ _ h => h) ?_ (by assumption) ?_
      rotate_left
      · intro ww hSw; (try dsimp only at hSw); first | (go_simp; done) | (go_simp; with_reducible rfl)
      simp only [Act.put, List.setIfInBounds_toArray, List.set_cons_zero, List.set_cons_succ]
      refine wpAnyH_takeD 27 (d := (some 73)) (v := ?_) rfl rfl (by kernel_rfl) (by kernel_rfl) (by kernel_rfl) (by kernel_rfl) (fun _ _ _ h => h) ?_ (by assumption) ?_
      rotate_left
      · intro ww hSw; (try dsimp only at hSw); first | (go_simp; done) | (go_simp; with_reducible rfl)
      simp only [Act.put, List.setIfInBounds_toArray, List.set_cons_zero, List.set_cons_succ]
      refine wpAnyH_takeD 28 (d := (some 74)) (v := ?_) rfl rfl (by kernel_rfl) (by kernel_rfl) (by kernel_rfl) (by kernel_rfl) (fun _ _ _ h => h) ?_ (by assumption) ?_
      rotate_left
      · intro ww hSw; (try dsimp only at hSw); first | (go_simp; done) | (go_simp; with_reducible rfl)
      simp only [Act.put, List.setIfInBounds_toArray, List.set_cons_zero, List.set_cons_succ]
      refine wpAnyH_takeD 29 (d := (some 75)) (v := ?_) rfl rfl (by kernel_rfl) (by kernel_rfl) (by kernel_rfl) (by kernel_rfl) (fun _ _ _ h => h) ?_ (by assumption) ?_
      rotate_left
      · intro ww hSw; (try dsimp only at hSw); first | (go_simp; done) | (go_simp; with_reducible rfl)
      simp only [Act.put, List.setIfInBounds_toArray, List.set_cons_zero, List.set_cons_succ]
      refine wpAnyH_takeD 30 (d := (some 76)) (v := ?_) rfl rfl (by kernel_rfl) (by kernel_rfl) (by kernel_rfl) (by kernel_rfl) (fun _ _ _ h => h) ?_ (by assumption) ?_
      rotate_left
      · intro ww hSw; (try dsimp only at hSw); first | (go_simp; done) | (go_simp; with_reducible rfl)
      simp only [Act.put, List.setIfInBounds_toArray, List.set_cons_zero, List.set_cons_succ]
      refine wpAnyH_takeD 31 (d := (some 77)) (v := ?_) rfl rfl (by kernel_rfl) (by kernel_rfl) (by kernel_rfl) (by kernel_rfl) (fun _ _ _ h => h) ?_ (by assumption) ?_
      rotate_left
      · intro ww hSw; (try dsimp only at hSw); first | (go_simp; done) | (go_simp; with_reducible rfl)
      simp only [Act.put, List.setIfInBounds_toArray, List.set_cons_zero, List.set_cons_succ]
      refine wpAnyH_takeD 32 (d := (some 78)) (v := ?_) rfl rfl (by kernel_rfl) (by kernel_rfl) (by kernel_rfl) (by kernel_rfl) (fun _ _ _ h => h) ?_ (by assumption) ?_
      rotate_left
      · intro ww hSw; (try dsimp only at hSw); first | (go_simp; done) | (go_simp; with_reducible rfl)
      simp only [Act.put, List.setIfInBounds_toArray, List.set_cons_zero, List.set_cons_succ]
      refine wpAnyH_takeD 33 (d := (some 79)) (v := ?_) rfl rfl (by kernel_rfl) (by kernel_rfl) (by kernel_rfl) (by kernel_rfl) (fun _ _ _ h => h) ?_ (by assumption) ?_
      rotate_left
      · intro ww hSw; (try dsimp only at hSw); first | (go_simp; done) | (go_simp; with_reducible rfl)
      simp only [Act.put, List.setIfInBounds_toArray, List.set_cons_zero, List.set_cons_succ]
      refine wpAnyH_ready (rs := [34]) (by kernel_rfl) (by simp) ?_
      refine AllReadyH.cons (o := _) rfl (fun K hK => ?_) AllReadyH.nil
      go_simp
      go_at_call 35
      refine (KH.out _).mono ?_
      clear KH
      rintro e wx ⟨rfl, hbx⟩
      have hby : Below W3.heap.size W3 wx := (Below.refl _ W3).drew.trans (hbx.mono (by simp))
      try go_simp
      refine hK.out _ _ ?_ (fun hHeld => ?_)
      · refine ⟨?_, ?_, ?_, ?_⟩ <;> (first | with_reducible assumption | (rw [hby.cell (by (try dsimp only); omega)]; with_reducible assumption) | (go_keep; done))
      clear hK K
      refine wpAnyH_takeD 35 (d := (some 81)) (v := ?_) rfl rfl (by kernel_rfl) (by kernel_rfl) (by kernel_rfl) (by kernel_rfl) (fun _ _ _ h => h) ?_ (by assumption) ?_
      rotate_left
      · intro ww hSw; (try dsimp only at hSw); first | (go_simp; done) | (go_simp; with_reducible rfl)
      simp only [Act.put, List.setIfInBounds_toArray, List.set_cons_zero, List.set_cons_succ]
      refine wpAnyH_takeD 36 (d := (some 82)) (v := ?_) rfl rfl (by kernel_rfl) (by kernel_rfl) (by kernel_rfl) (by kernel_rfl) (fun _ _ _ h => h) ?_ (by assumption) ?_
      rotate_left
      · intro ww hSw; (try dsimp only at hSw); first | (go_simp; done) | (go_simp; with_reducible rfl)
      simp only [Act.put, List.setIfInBounds_toArray, List.set_cons_zero, List.set_cons_succ]
      refine wpAnyH_done (by kernel_rfl) ?_ _
      have HZ := Lib.hid (HA0.out.grown hby)
      have c0 := HZ.out.r.c 0 _ rfl
      have c1' := HZ.out.r.c 1 _ rfl
      have c2 := HZ.out.r.c 2 _ rfl
      have c3 := HZ.out.r.c 3 _ rfl
      have f0 := HZ.out.r.f 0
      have f1 := HZ.out.r.f 1
      have f2 := HZ.out.r.f 2
      have f3 := HZ.out.r.f 3
      have HZ2 := Lib.hid HZ.out.zero
      go_wp2_with fail
      generalize World.setCell _ ⟨w.heap.size, 3, none⟩ (.slice none 0 0) = V at *
      clear c0 c1' c2 c3 f0 f1 f2 f3
      have e0 := HZ2.out.1.c 0 _ rfl
      have e1 := HZ2.out.1.c 1 _ rfl
      have e2 := HZ2.out.1.c 2 _ rfl
      have e3 := HZ2.out.1.c 3 _ rfl
      exact bodyPost_ret (v := .tuple #[zimV, .int .i64 6]) (by simp [results, Try.results26, go_sem, e0, e1, e2, e3, zimV]) rfl (FNO.out _ HNO.out HZ2.out.2)
    · have t24 : ((x16 : Int) != 24) = true := by rw [h32]; rfl
      have t32 : ((x16 : Int) != 32) = false := by rw [h32]; rfl
      clear h32
      refine wp_region_held_drew (S := (fun w' => w'.cell? ⟨w.heap.size + 1, 0, none⟩ = some (.int .i64 (p : Int)) ∧ w'.cell? ⟨w.heap.size + 1, 1, none⟩ = some (.int .i64 (q : Int)) ∧ w'.cell? ⟨w.heap.size + 1, 2, none⟩ = some (.int .i64 (x16 : Int)) ∧ w'.cell? ⟨w.heap.size + 1, 3, none⟩ = some (.slice none 0 0))) (by kernel_rfl) ?_ (fun hHeld => ?_)
      · refine ⟨?_, ?_, ?_, ?_⟩ <;> (first | with_reducible assumption | (rw [hby.cell (by (try dsimp only); omega)]; with_reducible assumption) | (go_keep; done))
      refine wpAnyH_takeD 0 (d := (some 46)) (v := ?_) rfl rfl (by kernel_rfl) (by kernel_rfl) (by kernel_rfl) (by kernel_rfl) (fun _ _ _ h => h) ?_ (by assumption) ?_
      rotate_left
      · intro ww hSw; (try dsimp only at hSw); first | (go_simp; done) | (go_simp; with_reducible rfl)
      simp only [Act.put, List.setIfInBounds_toArray, List.set_cons_zero, List.set_cons_succ]
      refine wpAnyH_takeD 1 (d := (some 47)) (v := ?_) rfl rfl (by kernel_rfl) (by kernel_rfl) (by kernel_rfl) (by kernel_rfl) (fun _ _ _ h => h) ?_ (by assumption) ?_
      rotate_left
      · intro ww hSw; (try dsimp only at hSw); first | (go_simp; done) | (go_simp; with_reducible rfl)
      simp only [Act.put, List.setIfInBounds_toArray, List.set_cons_zero, List.set_cons_succ]
      refine wpAnyH_takeD 2 (d := (some 48)) (v := ?_) rfl rfl (by kernel_rfl) (by kernel_rfl) (by kernel_rfl) (by kernel_rfl) (fun _ _ _ h => h) ?_ (by assumption) ?_
      rotate_left
      · intro ww hSw; (try dsimp only at hSw); first | (go_simp; done) | (go_simp; with_reducible rfl)
      simp only [Act.put, List.setIfInBounds_toArray, List.set_cons_zero, List.set_cons_succ]
      refine wpAnyH_takeD 3 (d := (some 49)) (v := ?_) rfl rfl (by kernel_rfl) (by kernel_rfl) (by kernel_rfl) (by kernel_rfl) (fun _ _ _ h => h) ?_ (by assumption) ?_
      rotate_left
      · intro ww hSw; (try dsimp only at hSw); first | (go_simp; done) | (go_simp; with_reducible rfl)
      simp only [Act.put, List.setIfInBounds_toArray, List.set_cons_zero, List.set_cons_succ]
      refine wpAnyH_takeD 4 (d := (some 50)) (v := ?_) rfl rfl (by kernel_rfl) (by kernel_rfl) (by kernel_rfl) (by kernel_rfl) (fun _ _ _ h => h) ?_ (by assumption) ?_
      rotate_left
      · intro ww hSw; (try dsimp only at hSw); first | (go_simp; done) | (go_simp; with_reducible rfl)
      simp only [Act.put, List.setIfInBounds_toArray, List.set_cons_zero, List.set_cons_succ]
      refine wpAnyH_takeD 5 (d := (some 51)) (v := ?_) rfl rfl (by kernel_rfl) (by kernel_rfl) (by kernel_rfl) (by kernel_rfl) (fun _ _ _ h => h) ?_ (by assumption) ?_
      rotate_left
      · intro ww hSw; (try dsimp only at hSw); first | (go_simp; done) | (go_simp; with_reducible rfl)
      simp only [Act.put, List.setIfInBounds_toArray, List.set_cons_zero, List.set_cons_succ]
      refine wpAnyH_takeD 6 (d := (some 52)) (v := ?_) rfl rfl (by kernel_rfl) (by kernel_rfl) (by kernel_rfl) (by kernel_rfl) (fun _ _ _ h => h) ?_ (by assumption) ?_
      rotate_left
      · intro ww hSw; (try dsimp only at hSw); first | (go_simp; done) | (go_simp; with_reducible rfl)
      simp only [Act.put, List.setIfInBounds_toArray, List.set_cons_zero, List.set_cons_succ]
      refine wpAnyH_takeD 7 (d := (some 53)) (v := ?_) rfl rfl (by kernel_rfl) (by kernel_rfl) (by kernel_rfl) (by kernel_rfl) (fun _ _ _ h => h) ?_ (by assumption) ?_
      rotate_left
      · intro ww hSw; (try dsimp only at hSw); first | (go_simp; done) | (go_simp; with_reducible rfl)
      simp only [Act.put, List.setIfInBounds_toArray, List.set_cons_zero, List.set_cons_succ]
      refine wpAnyH_takeD 8 (d := (some 54)) (v := ?_) rfl rfl (by kernel_rfl) (by kernel_rfl) (by kernel_rfl) (by kernel_rfl) (fun _ _ _ h => h) ?_ (by assumption) ?_
      rotate_left
      · intro ww hSw; (try dsimp only at hSw); first | (go_simp; done) | (go_simp; with_reducible rfl)
      simp only [Act.put, List.setIfInBounds_toArray, List.set_cons_zero, List.set_cons_succ]
      refine wpAnyH_takeD 9 (d := (some 55)) (v := ?_) rfl rfl (by kernel_rfl) (by kernel_rfl) (by kernel_rfl) (by kernel_rfl) (fun _ _ _ h => h) ?_ (by assumption) ?_
      rotate_left
      · intro ww hSw; (try dsimp only at hSw); first | (go_simp; done) | (go_simp; with_reducible rfl)
      simp only [Act.put, List.setIfInBounds_toArray, List.set_cons_zero, List.set_cons_succ]
      refine wpAnyH_takeD 10 (d := (some 56)) (v := ?_) rfl rfl (by kernel_rfl) (by kernel_rfl) (by kernel_rfl) (by kernel_rfl) (fun _ _ _ h => h) ?_ (by assumption) ?_
      rotate_left
      · intro ww hSw; (try dsimp only at hSw); first | (go_simp; done) | (go_simp; with_reducible rfl)
      simp only [Act.put, List.setIfInBounds_toArray, List.set_cons_zero, List.set_cons_succ]
      refine wpAnyH_takeD 11 (d := (some 57)) (v := ?_) rfl rfl (by kernel_rfl) (by kernel_rfl) (by kernel_rfl) (by kernel_rfl) (fun _ _ _ h => h) ?_ (by assumption) ?_
      rotate_left
      · intro ww hSw; (try dsimp only at hSw); first | (go_simp; done) | (go_simp; with_reducible rfl)
      simp only [Act.put, List.setIfInBounds_toArray, List.set_cons_zero, List.set_cons_succ]
      refine wpAnyH_takeD 12 (d := (some 58)) (v := ?_) rfl rfl (by kernel_rfl) (by kernel_rfl) (by kernel_rfl) (by kernel_rfl) (fun _ _ _ h => h) ?_ (by assumption) ?_
      rotate_left
      · intro ww hSw; (try dsimp only at hSw); first | (go_simp; done) | (go_simp; with_reducible rfl)
      simp only [Act.put, List.setIfInBounds_toArray, List.set_cons_zero, List.set_cons_succ]
      refine wpAnyH_takeD 13 (d := (some 59)) (v := ?_) rfl rfl (by kernel_rfl) (by kernel_rfl) (by kernel_rfl) (by kernel_rfl) (fun _ _ _ h => h) ?_ (by assumption) ?_
      rotate_left
      · intro ww hSw; (try dsimp only at hSw); first | (go_simp; done) | (go_simp; with_reducible rfl)
      simp only [Act.put, List.setIfInBounds_toArray, List.set_cons_zero, List.set_cons_succ]
      refine wpAnyH_takeD 14 (d := (some 60)) (v := ?_) rfl rfl (by kernel_rfl) (by kernel_rfl) (by kernel_rfl) (by kernel_rfl) (fun _ _ _ h => h) ?_ (by assumption) ?_
      rotate_left
      · intro ww hSw; (try dsimp only at hSw); first | (go_simp; done) | (go_simp; with_reducible rfl)
      simp only [Act.put, List.setIfInBounds_toArray, List.set_cons_zero, List.set_cons_succ]
      refine wpAnyH_takeD 15 (d := (some 61)) (v := ?_) rfl rfl (by kernel_rfl) (by kernel_rfl) (by kernel_rfl) (by kernel_rfl) (fun _ _ _ h => h) ?_ (by assumption) ?_
      rotate_left
      · intro ww hSw; (try dsimp only at hSw); first | (go_simp; done) | (go_simp; with_reducible rfl)
      simp only [Act.put, List.setIfInBounds_toArray, List.set_cons_zero, List.set_cons_succ]
      refine wpAnyH_takeD 16 (d := (some 62)) (v := ?_) rfl rfl (by kernel_rfl) (by kernel_rfl) (by kernel_rfl) (by kernel_rfl) (fun _ _ _ h => h) ?_ (by assumption) ?_
      rotate_left
      · intro ww hSw; (try dsimp only at hSw); first | (go_simp; done) | (go_simp; with_reducible rfl)
      simp only [Act.put, List.setIfInBounds_toArray, List.set_cons_zero, List.set_cons_succ]
      refine wpAnyH_takeD 17 (d := (some 63)) (v := ?_) rfl rfl (by kernel_rfl) (by kernel_rfl) (by kernel_rfl) (by kernel_rfl) (fun _ _ _ h => h) ?_ (by assumption) ?_
      rotate_left
      · intro ww hSw; (try dsimp only at hSw); first | (go_simp; done) | (go_simp; with_reducible rfl)
      simp only [Act.put, List.setIfInBounds_toArray, List.set_cons_zero, List.set_cons_succ]
      refine wpAnyH_takeD 18 (d := (some 64)) (v := ?_) rfl rfl (by kernel_rfl) (by kernel_rfl) (by kernel_rfl) (by kernel_rfl) (fun _ _ _ h => h) ?_ (by assumption) ?_
      rotate_left
      · intro ww hSw; (try dsimp only at hSw); first | (go_simp; done) | (go_simp; with_reducible rfl)
      simp only [Act.put, List.setIfInBounds_toArray, List.set_cons_zero, List.set_cons_succ]
      refine wpAnyH_takeD 19 (d := (some 65)) (v := ?_) rfl rfl (by kernel_rfl) (by kernel_rfl) (by kernel_rfl) (by kernel_rfl) (fun _ _ _ h => h) ?_ (by assumption) ?_
      rotate_left
      · intro ww hSw; (try dsimp only at hSw); first | (go_simp; done) | (go_simp; with_reducible rfl)
      simp only [Act.put, List.setIfInBounds_toArray, List.set_cons_zero, List.set_cons_succ]
      refine wpAnyH_takeD 20 (d := (some 66)) (v := ?_) rfl rfl (by kernel_rfl) (by kernel_rfl) (by kernel_rfl) (by kernel_rfl) (fun _ _ _ h => h) ?_ (by assumption) ?_
      rotate_left
      · intro ww hSw; (try dsimp only at hSw); first | (go_simp; done) | (go_simp; with_reducible rfl)
      simp only [Act.put, List.setIfInBounds_toArray, List.set_cons_zero, List.set_cons_succ]
      refine wpAnyH_takeD 21 (d := (some 67)) (v := ?_) rfl rfl (by kernel_rfl) (by kernel_rfl) (by kernel_rfl) (by kernel_rfl) (fun _ _ _ h => h) ?_ (by assumption) ?_
      rotate_left
      · intro ww hSw; (try dsimp only at hSw); first | (go_simp; done) | (go_simp; with_reducible rfl)
      simp only [Act.put, List.setIfInBounds_toArray, List.set_cons_zero, List.set_cons_succ]
      refine wpAnyH_takeD 22 (d := (some 68)) (v := ?_) rfl rfl (by kernel_rfl) (by kernel_rfl) (by kernel_rfl) (by kernel_rfl) (fun _ _ _ h => h) ?_ (by assumption) ?_
      rotate_left
      · intro ww hSw; (try dsimp only at hSw); first | (go_simp; done) | (go_simp; with_reducible rfl)
      simp only [Act.put, List.setIfInBounds_toArray, List.set_cons_zero, List.set_cons_succ]
      refine wpAnyH_takeD 23 (d := (some 69)) (v := ?_) rfl rfl (by kernel_rfl) (by kernel_rfl) (by kernel_rfl) (by kernel_rfl) (fun _ _ _ h => h) ?_ (by assumption) ?_
      rotate_left
      · intro ww hSw; (try dsimp only at hSw); first | (go_simp; done) | (go_simp; with_reducible rfl)
      simp only [Act.put, List.setIfInBounds_toArray, List.set_cons_zero, List.set_cons_succ]
      refine wpAnyH_takeD 24 (d := (some 70)) (v := ?_) rfl rfl (by kernel_rfl) (by kernel_rfl) (by kernel_rfl) (by kernel_rfl) (fun _ _ _ h => h) ?_ (by assumption) ?_
      rotate_left
      · intro ww hSw; (try dsimp only at hSw); first | (go_simp; done) | (go_simp; with_reducible rfl)
      simp only [Act.put, List.setIfInBounds_toArray, List.set_cons_zero, List.set_cons_succ]
      refine wpAnyH_takeD 25 (d := (some 71)) (v := ?_) rfl rfl (by kernel_rfl) (by kernel_rfl) (by kernel_rfl) (by kernel_rfl) (fun _ _ _ h => h) ?_ (by assumption) ?_
      rotate_left
      · intro ww hSw; (try dsimp only at hSw); first | (go_simp; done) | (go_simp; with_reducible rfl)
      simp only [Act.put, List.setIfInBounds_toArray, List.set_cons_zero, List.set_cons_succ]
      refine wpAnyH_takeD 26 (d := (some 72)) (v := ?_) rfl rfl (by kernel_rfl) (by kernel_rfl) (by kernel_rfl) (by kernel_rfl) (fun _ _ _ h => h) ?_ (by assumption) ?_
      rotate_left
      · intro ww hSw; (try dsimp only at hSw); first | (go_simp; done) | (go_simp; with_reducible rfl)
      simp only [Act.put, List.setIfInBounds_toArray, List.set_cons_zero, List.set_cons_succ]
      refine wpAnyH_takeD 27 (d := (some 73)) (v := ?_) rfl rfl (by kernel_rfl) (by kernel_rfl) (by kernel_rfl) (by kernel_rfl) (fun _ _ _ h => h) ?_ (by assumption) ?_
      rotate_left
      · intro ww hSw; (try dsimp only at hSw); first | (go_simp; done) | (go_simp; with_reducible rfl)
      simp only [Act.put, List.setIfInBounds_toArray, List.set_cons_zero, List.set_cons_succ]
      refine wpAnyH_takeD 28 (d := (some 74)) (v := ?_) rfl rfl (by kernel_rfl) (by kernel_rfl) (by kernel_rfl) (by kernel_rfl) (fun _ _ _ h => h) ?_ (by assumption) ?_
      rotate_left
      · intro ww hSw; (try dsimp only at hSw); first | (go_simp; done) | (go_simp; with_reducible rfl)
      simp only [Act.put, List.setIfInBounds_toArray, List.set_cons_zero, List.set_cons_succ]
      refine wpAnyH_takeD 29 (d := (some 75)) (v := ?_) rfl rfl (by kernel_rfl) (by kernel_rfl) (by kernel_rfl) (by kernel_rfl) (fun _ _ _ h => h) ?_ (by assumption) ?_
      rotate_left
      · intro ww hSw; (try dsimp only at hSw); first | (go_simp; done) | (go_simp; with_reducible rfl)
      simp only [Act.put, List.setIfInBounds_toArray, List.set_cons_zero, List.set_cons_succ]
      refine wpAnyH_takeD 30 (d := (some 76)) (v := ?_) rfl rfl (by kernel_rfl) (by kernel_rfl) (by kernel_rfl) (by kernel_rfl) (fun _ _ _ h => h) ?_ (by assumption) ?_
      rotate_left
      · intro ww hSw; (try dsimp only at hSw); first | (go_simp; done) | (go_simp; with_reducible rfl)
      simp only [Act.put, List.setIfInBounds_toArray, List.set_cons_zero, List.set_cons_succ]
      refine wpAnyH_takeD 31 (d := (some 77)) (v := ?_) rfl rfl (by kernel_rfl) (by kernel_rfl) (by kernel_rfl) (by kernel_rfl) (fun _ _ _ h => h) ?_ (by assumption) ?_
      rotate_left
      · intro ww hSw; (try dsimp only at hSw); first | (go_simp; done) | (go_simp; with_reducible rfl)
      simp only [Act.put, List.setIfInBounds_toArray, List.set_cons_zero, List.set_cons_succ]
      refine wpAnyH_takeD 32 (d := (some 78)) (v := ?_) rfl rfl (by kernel_rfl) (by kernel_rfl) (by kernel_rfl) (by kernel_rfl) (fun _ _ _ h => h) ?_ (by assumption) ?_
      rotate_left
      · intro ww hSw; (try dsimp only at hSw); first | (go_simp; done) | (go_simp; with_reducible rfl)
      simp only [Act.put, List.setIfInBounds_toArray, List.set_cons_zero, List.set_cons_succ]
      refine wpAnyH_takeD 33 (d := (some 79)) (v := ?_) rfl rfl (by kernel_rfl) (by kernel_rfl) (by kernel_rfl) (by kernel_rfl) (fun _ _ _ h => h) ?_ (by assumption) ?_
      rotate_left
      · intro ww hSw; (try dsimp only at hSw); first | (go_simp; done) | (go_simp; with_reducible rfl)
      simp only [Act.put, List.setIfInBounds_toArray, List.set_cons_zero, List.set_cons_succ]
      refine wpAnyH_ready (rs := [34]) (by kernel_rfl) (by simp) ?_
      refine AllReadyH.cons (o := _) rfl (fun K hK => ?_) AllReadyH.nil
      go_simp
      go_at_call 35
      refine (KH.out _).mono ?_
      clear KH
      rintro e wx ⟨rfl, hbx⟩
      have hby : Below W3.heap.size W3 wx := (Below.refl _ W3).drew.trans (hbx.mono (by simp))
      try go_simp
      refine hK.out _ _ ?_ (fun hHeld => ?_)
      · refine ⟨?_, ?_, ?_, ?_⟩ <;> (first | with_reducible assumption | (rw [hby.cell (by (try dsimp only); omega)]; with_reducible assumption) | (go_keep; done))
      clear hK K
      refine wpAnyH_takeD 35 (d := (some 81)) (v := ?_) rfl rfl (by kernel_rfl) (by kernel_rfl) (by kernel_rfl) (by kernel_rfl) (fun _ _ _ h => h) ?_ (by assumption) ?_
      rotate_left
      · intro ww hSw; (try dsimp only at hSw); first | (go_simp; done) | (go_simp; with_reducible rfl)
      simp only [Act.put, List.setIfInBounds_toArray, List.set_cons_zero, List.set_cons_succ]
      refine wpAnyH_takeD 36 (d := (some 82)) (v := ?_) rfl rfl (by kernel_rfl) (by kernel_rfl) (by kernel_rfl) (by kernel_rfl) (fun _ _ _ h => h) ?_ (by assumption) ?_
      rotate_left
      · intro ww hSw; (try dsimp only at hSw); first | (go_simp; done) | (go_simp; with_reducible rfl)
      simp only [Act.put, List.setIfInBounds_toArray, List.set_cons_zero, List.set_cons_succ]
      refine wpAnyH_done (by kernel_rfl) ?_ _
      have HZ := Lib.hid (HA0.out.grown hby)
      have c0 := HZ.out.r.c 0 _ rfl
      have c1' := HZ.out.r.c 1 _ rfl
      have c2 := HZ.out.r.c 2 _ rfl
      have c3 := HZ.out.r.c 3 _ rfl
      have f0 := HZ.out.r.f 0
      have f1 := HZ.out.r.f 1
      have f2 := HZ.out.r.f 2
      have f3 := HZ.out.r.f 3
      have HZ2 := Lib.hid HZ.out.zero
      go_wp2_with fail
      generalize World.setCell _ ⟨w.heap.size, 3, none⟩ (.slice none 0 0) = V at *
      clear c0 c1' c2 c3 f0 f1 f2 f3
      have e0 := HZ2.out.1.c 0 _ rfl
      have e1 := HZ2.out.1.c 1 _ rfl
      have e2 := HZ2.out.1.c 2 _ rfl
      have e3 := HZ2.out.1.c 3 _ rfl
      exact bodyPost_ret (v := .tuple #[zimV, .int .i64 6]) (by simp [results, Try.results26, go_sem, e0, e1, e2, e3, zimV]) rfl (FNO.out _ HNO.out HZ2.out.2)
end Go.Proofs.Ytfkkppagbhllgaa

/-
  THE WALKS OF limewashref29's Is, Own and row.
-/
set_option linter.unusedVariables false
set_option linter.unusedSimpArgs false
set_option maxRecDepth 100000
namespace Go.Proofs.Ytfkkppagbhllgaa
open Go.RowKit

set_option maxHeartbeats 800000 in
theorem isref_any (p q b : Int) (A : Option Addr) (n c : Nat) (w : World) (hn : n ≤ 9223372036854775807) :
    Calls Try.prog 23 #[imV p q b A n c] w fun e w' => e = .returned (.bool (isT p q b n)) ∧ Below w.heap.size w w' := by
  have HB := Lib.hid ((Below.refl w.heap.size w).alloc (Nat.le_refl _) (.cells #[.int .i64 p, .int .i64 q, .int .i64 b, .slice A n c] 24))
  have HF : Hid (formT p q b = false → isT p q b n = false) := Lib.hid fun h => by unfold isT; rw [h]; rfl
  unfold imV
  by_cases h1 : p < 1
  · have t1 : decide (p < 1) = true := decide_eq_true h1
    have HNO := Lib.hid (HF.out (by unfold formT; rw [decide_eq_false_iff_not]; omega))
    clear h1
    go_enter Try.func23, Try.ntmps23
    go_wp2_with fail
    go_ret
    exact ⟨ret_bool HNO.out.symm, HB.out⟩
  have t1 : decide (p < 1) = false := decide_eq_false h1
  by_cases h2 : 256 < p
  · have t2 : decide (256 < p) = true := decide_eq_true h2
    have HNO := Lib.hid (HF.out (by unfold formT; rw [decide_eq_false_iff_not]; omega))
    clear h1 h2
    go_enter Try.func23, Try.ntmps23
    go_wp2_with fail
    go_ret
    exact ⟨ret_bool HNO.out.symm, HB.out⟩
  have t2 : decide (256 < p) = false := decide_eq_false h2
  by_cases h3 : q < 1
  · have t3 : decide (q < 1) = true := decide_eq_true h3
    have HNO := Lib.hid (HF.out (by unfold formT; rw [decide_eq_false_iff_not]; omega))
    clear h1 h2 h3
    go_enter Try.func23, Try.ntmps23
    go_wp2_with fail
    go_ret
    exact ⟨ret_bool HNO.out.symm, HB.out⟩
  have t3 : decide (q < 1) = false := decide_eq_false h3
  by_cases h4 : 256 < q
  · have t4 : decide (256 < q) = true := decide_eq_true h4
    have HNO := Lib.hid (HF.out (by unfold formT; rw [decide_eq_false_iff_not]; omega))
    clear h1 h2 h3 h4
    go_enter Try.func23, Try.ntmps23
    go_wp2_with fail
    go_ret
    exact ⟨ret_bool HNO.out.symm, HB.out⟩
  have t4 : decide (256 < q) = false := decide_eq_false h4
  obtain ⟨p, rfl⟩ : ∃ k : Nat, p = k := ⟨p.toNat, by omega⟩
  obtain ⟨q, rfl⟩ : ∃ k : Nat, q = k := ⟨q.toNat, by omega⟩
  have p2 : ¬ (256 < p) := by omega
  have q2 : ¬ (256 < q) := by omega
  by_cases h5 : b = 24
  · subst h5
    have HE : Hid (((n : Int) == (p : Int) * (q : Int) * 3) = isT (p : Int) (q : Int) 24 n) := Lib.hid (by
      unfold isT formT
      rw [decide_eq_true (show (1 ≤ (p : Int) ∧ (p : Int) ≤ 256 ∧ 1 ≤ (q : Int) ∧ (q : Int) ≤ 256 ∧ ((24 : Int) = 24 ∨ (24 : Int) = 32)) by omega), Bool.true_and, show ((24 : Int) / 8) = 3 from rfl, Bool.eq_iff_iff]
      simp)
    have hx := mul_bd (p := p) (q := q) (z := 3) (by omega) (by omega) (by omega)
    have e1 : (p : Int) * (q : Int) = ((p * q : Nat) : Int) := by simp
    rw [e1] at HE
    generalize p * q = R at *
    have wR : IntKind.i64.wrap (R : Int) = (R : Int) := by rw [IntKind.wrap_i64]; omega
    have wRz : IntKind.i64.wrap ((R : Int) * 3) = (R : Int) * 3 := by rw [IntKind.wrap_i64]; omega
    clear h1 h2 h3 h4 hx
    go_enter Try.func23, Try.ntmps23
    go_wp2_with fail
    go_ret
    exact ⟨ret_bool HE.out, HB.out⟩
  · by_cases h6 : b = 32
    · subst h6
      clear h5
      have HE : Hid (((n : Int) == (p : Int) * (q : Int) * 4) = isT (p : Int) (q : Int) 32 n) := Lib.hid (by
        unfold isT formT
        rw [decide_eq_true (show (1 ≤ (p : Int) ∧ (p : Int) ≤ 256 ∧ 1 ≤ (q : Int) ∧ (q : Int) ≤ 256 ∧ ((32 : Int) = 24 ∨ (32 : Int) = 32)) by omega), Bool.true_and, show ((32 : Int) / 8) = 4 from rfl, Bool.eq_iff_iff]
        simp)
      have hx := mul_bd (p := p) (q := q) (z := 4) (by omega) (by omega) (by omega)
      have e1 : (p : Int) * (q : Int) = ((p * q : Nat) : Int) := by simp
      rw [e1] at HE
      generalize p * q = R at *
      have wR : IntKind.i64.wrap (R : Int) = (R : Int) := by rw [IntKind.wrap_i64]; omega
      have wRz : IntKind.i64.wrap ((R : Int) * 4) = (R : Int) * 4 := by rw [IntKind.wrap_i64]; omega
      clear h1 h2 h3 h4 hx
      go_enter Try.func23, Try.ntmps23
      go_wp2_with fail
      go_ret
      exact ⟨ret_bool HE.out, HB.out⟩
    · have t5 : (b != 24) = true := by rw [bne_iff_ne]; exact h5
      have t6 : (b != 32) = true := by rw [bne_iff_ne]; exact h6
      have HNO := Lib.hid (HF.out (by unfold formT; rw [decide_eq_false_iff_not]; omega))
      clear h1 h2 h3 h4 h5 h6
      go_enter Try.func23, Try.ntmps23
      go_wp2_with fail
      go_ret
      exact ⟨ret_bool HNO.out.symm, HB.out⟩

/-- what Own hands back -/
def OwnIm (p q b : Int) (d : List UInt8) (w : World) (e : Ending) (w' : World) : Prop :=
  Below w.heap.size w w' ∧ ∃ A n c, e = .returned (imV p q b A n c) ∧ Byts w' w'.heap.size A n d ∧ n ≤ c ∧ c ≤ 9223372036854775807
theorem bytes_one : ∀ (d : List UInt8), ∀ u ∈ Lib.byteCells d, u.oneCell' = true := fun d u hu => by
  unfold Lib.byteCells at hu
  obtain ⟨x, _, rfl⟩ := List.mem_map.1 hu
  rfl
set_option maxHeartbeats 800000 in
theorem ownref_pos (p q b : Int) (A : Option Addr) (n c : Nat) (d : List UInt8) (w : World) (hI : Byts w w.heap.size A n d) (h0 : 0 < n) (hn : n ≤ 10000000) :
    Calls Try.prog 10 #[imV p q b A n c] w (OwnIm p q b d w) := by
  obtain ⟨i0, hi0, hz0, hzz1, hzz2⟩ := info_parts size_u8
  have hlen := hI.length
  have hl : (Lib.byteCells d).length = n * 1 := by rw [bytes_len]; omega
  obtain ⟨ad, rfl, hbl, hc⟩ := hI.rd.2 h0
  have hb1 : Below w.heap.size w (w.alloc (.cells #[.int .i64 p, .int .i64 q, .int .i64 b, .slice (some ad) n c] 24)) := (Below.refl _ _).alloc (Nat.le_refl _) _
  have hb2 := hb1.alloc hb1.size (.cells zimC 24)
  have hb3 := hb2.alloc hb2.size (.cells #[.int .i64 p, .int .i64 q, .int .i64 b, .slice none 0 0] 24)
  have s1 := SlotN.new w [.int .i64 p, .int .i64 q, .int .i64 b, .slice (some ad) n c] #[.int .i64 p, .int .i64 q, .int .i64 b, .slice (some ad) n c] 24 rfl
  have m3' := s1.c 3 _ rfl
  obtain ⟨W3, hW3⟩ : ∃ W3, W3 = ((w.alloc (.cells #[.int .i64 p, .int .i64 q, .int .i64 b, .slice (some ad) n c] 24)).alloc (.cells zimC 24)).alloc (.cells #[.int .i64 p, .int .i64 q, .int .i64 b, .slice none 0 0] 24) := ⟨_, rfl⟩
  have s3 : SlotN W3 (w.heap.size + 1 + 1) [.int .i64 p, .int .i64 q, .int .i64 b, .slice none 0 0] := by
    have := SlotN.new ((w.alloc (.cells #[.int .i64 p, .int .i64 q, .int .i64 b, .slice (some ad) n c] 24)).alloc (.cells zimC 24)) [.int .i64 p, .int .i64 q, .int .i64 b, .slice none 0 0] #[.int .i64 p, .int .i64 q, .int .i64 b, .slice none 0 0] 24 rfl
    rw [hW3]; simpa using this
  have s2 : SlotN W3 (w.heap.size + 1) zim := by
    have := SlotN.new (w.alloc (.cells #[.int .i64 p, .int .i64 q, .int .i64 b, .slice (some ad) n c] 24)) zim zimC 24 rfl
    rw [World.size_alloc] at this
    rw [hW3]
    exact this.below ((Below.refl (w.heap.size + 1 + 1) _).alloc (by simp) _) (by omega)
  rw [← hW3] at hb3
  have hz3 : W3.heap.size = w.heap.size + 3 := by rw [hW3]; simp
  have hcW : ∀ j u, (Lib.byteCells d)[j]? = some u → W3.cell? (ad.add j) = some u := fun j u hu => by
    rw [hb3.cell (by rw [addr_block]; exact hbl)]; exact hc j u hu
  unfold zimC at hW3
  have HW3 := Lib.hid hW3
  have S3 := Lib.hid s3
  have S2 := Lib.hid s2
  have HB3 := Lib.hid hb3
  have HC := Lib.hid hcW
  have hone := Lib.hid (bytes_one d)
  clear s1 s2 s3 hb1 hb2 hb3 hcW hc hI
  unfold imV
  go_enter Try.func10, Try.ntmps10
  go_wp2_with (at_builtin; rw [← HW3.out]; refine wpList_append_lies _ rfl (.tmp 12) (.tmp 14) _ rfl (w.heap.size + 3) 5 i0 _ 1 1 Try.underlying22 hi0 hz0 hzz1 hzz2 rfl (by decide) _ 0 [] rfl (World.ownsRow_nil _ _ _ _) ad n c (Lib.byteCells d) rfl hl HC.out hone.out h0 (by unfold maxLen; omega) (by omega) (by omega) _ rfl ?_; intro g4 cap4 w4 hown4 hgr4 hat4 hlt4; have T3 := slot_far S3.out hgr4 (fun e => by cases e) (by omega); have T2 := slot_far S2.out hgr4 (fun e => by cases e) (by omega); have a0 := T3.c 0 _ rfl; have a1 := T3.c 1 _ rfl; have a2 := T3.c 2 _ rfl; have a3 := T3.c 3 _ rfl; have f3 := T3.f 3; have b0 := T2.c 0 _ rfl; have b1 := T2.c 1 _ rfl; have b2 := T2.c 2 _ rfl; have b3 := T2.c 3 _ rfl; have k0 := T2.f 0; have k1 := T2.f 1; have k2 := T2.f 2; have k3 := T2.f 3; have HGR := Lib.hid hgr4; have HOWN := Lib.hid hown4; have HT2 := Lib.hid T2; clear hgr4 hown4 T2 T3 hat4)
  simp only [Nat.zero_add, List.nil_append] at *
  have HR := Lib.hid (((((HT2.out.otherJ (w.heap.size + 1 + 1) 3 (by omega) (.slice (some ⟨g4, 0, none⟩) n cap4)).setAt 0 (by simp [zim]) (.int .i64 p)).setAt 1 (by simp [zim]) (.int .i64 q)).setAt 2 (by simp [zim]) (.int .i64 b)).setAt 3 (by simp [zim]) (.slice (some ⟨g4, 0, none⟩) n cap4))
  have HB4 := HB3.out.grown HGR.out HB3.out.size (fun k hk => by cases hk)
  have HBZ := Lib.hid (((((HB4.setCell (p := ⟨w.heap.size + 1 + 1, 3, none⟩) (by simp; omega) (.slice (some ⟨g4, 0, none⟩) n cap4)).setCell (p := ⟨w.heap.size + 1, 0, none⟩) (by simp) (.int .i64 p)).setCell (p := ⟨w.heap.size + 1, 1, none⟩) (by simp) (.int .i64 q)).setCell (p := ⟨w.heap.size + 1, 2, none⟩) (by simp) (.int .i64 b)).setCell (p := ⟨w.heap.size + 1, 3, none⟩) (by simp) (.slice (some ⟨g4, 0, none⟩) n cap4))
  have HO := own_kept (own_kept (own_kept (own_kept (own_kept HOWN.out (grown_set _ (w.heap.size + 1 + 1) 3 (.slice (some ⟨g4, 0, none⟩) n cap4)) (by omega)) (grown_set _ (w.heap.size + 1) 0 (.int .i64 p)) (by omega)) (grown_set _ (w.heap.size + 1) 1 (.int .i64 q)) (by omega)) (grown_set _ (w.heap.size + 1) 2 (.int .i64 b)) (by omega)) (grown_set _ (w.heap.size + 1) 3 (.slice (some ⟨g4, 0, none⟩) n cap4)) (by omega)
  clear HB4 a0 a1 a2 a3 b0 b1 b2 b3 f3 k0 k1 k2 k3
  generalize World.setCell _ ⟨w.heap.size + 1, 3, none⟩ (.slice (some ⟨g4, 0, none⟩) n cap4) = V at *
  have e0 := HR.out.c 0 _ rfl
  have e1 := HR.out.c 1 _ rfl
  have e2 := HR.out.c 2 _ rfl
  have e3 := HR.out.c 3 _ rfl
  have hcp := own_cap HO
  exact bodyPost_ret (v := .agg #[.int .i64 p, .int .i64 q, .int .i64 b, .slice (some ⟨g4, 0, none⟩) n cap4]) (by simp [results, Try.results10, go_sem, e0, e1, e2, e3]) rfl ⟨HBZ.out, some ⟨g4, 0, none⟩, n, cap4, rfl, ⟨Rd.of_own HO, by omega⟩, hcp.1, hcp.2⟩
theorem ownref_nil (p q b : Int) (A : Option Addr) (c : Nat) (w : World) :
    Calls Try.prog 10 #[imV p q b A 0 c] w (OwnIm p q b [] w) := by
  have hb1 : Below w.heap.size w (w.alloc (.cells #[.int .i64 p, .int .i64 q, .int .i64 b, .slice A 0 c] 24)) := (Below.refl _ _).alloc (Nat.le_refl _) _
  unfold imV
  cases A with
  | none =>
    go_enter Try.func10, Try.ntmps10
    go_wp2_with fail
    have s2 := SlotN.new (w.alloc (.cells #[.int .i64 p, .int .i64 q, .int .i64 b, .slice none 0 c] 24)) [.int .i64 p, .int .i64 q, .int .i64 b, .slice none 0 0] #[.int .i64 p, .int .i64 q, .int .i64 b, .slice none 0 0] 24 rfl
    rw [World.size_alloc] at s2
    have hb2 := (hb1.alloc hb1.size (.cells #[.int .i64 p, .int .i64 q, .int .i64 b, .slice none 0 0] 24))
    have hb3 := (hb2.alloc hb2.size (.cells #[.int .i64 p, .int .i64 q, .int .i64 b, .slice none 0 0] 24))
    have s3 := s2.below ((Below.refl (w.heap.size + 1 + 1) _).alloc (by simp) (.cells #[.int .i64 p, .int .i64 q, .int .i64 b, .slice none 0 0] 24)) (by omega)
    generalize ((w.alloc (.cells #[.int .i64 p, .int .i64 q, .int .i64 b, .slice none 0 c] 24)).alloc (.cells #[.int .i64 p, .int .i64 q, .int .i64 b, .slice none 0 0] 24)).alloc (.cells #[.int .i64 p, .int .i64 q, .int .i64 b, .slice none 0 0] 24) = V at *
    have e0 := s3.c 0 _ rfl
    have e1 := s3.c 1 _ rfl
    have e2 := s3.c 2 _ rfl
    have e3 := s3.c 3 _ rfl
    exact bodyPost_ret (v := .agg #[.int .i64 p, .int .i64 q, .int .i64 b, .slice none 0 0]) (by simp [results, Try.results10, go_sem, e0, e1, e2, e3]) rfl ⟨hb3, none, 0, 0, rfl, ⟨Rd.nil, by omega⟩, Nat.le_refl _, by omega⟩
  | some ad =>
    go_enter Try.func10, Try.ntmps10
    go_wp2_with fail
    have s2 := SlotN.new (w.alloc (.cells #[.int .i64 p, .int .i64 q, .int .i64 b, .slice (some ad) 0 c] 24)) [.int .i64 p, .int .i64 q, .int .i64 b, .slice none 0 0] #[.int .i64 p, .int .i64 q, .int .i64 b, .slice none 0 0] 24 rfl
    rw [World.size_alloc] at s2
    have hb2 := (hb1.alloc hb1.size (.cells #[.int .i64 p, .int .i64 q, .int .i64 b, .slice none 0 0] 24))
    have hb3 := (hb2.alloc hb2.size (.cells #[.int .i64 p, .int .i64 q, .int .i64 b, .slice none 0 0] 24))
    have s3 := s2.below ((Below.refl (w.heap.size + 1 + 1) _).alloc (by simp) (.cells #[.int .i64 p, .int .i64 q, .int .i64 b, .slice none 0 0] 24)) (by omega)
    generalize ((w.alloc (.cells #[.int .i64 p, .int .i64 q, .int .i64 b, .slice (some ad) 0 c] 24)).alloc (.cells #[.int .i64 p, .int .i64 q, .int .i64 b, .slice none 0 0] 24)).alloc (.cells #[.int .i64 p, .int .i64 q, .int .i64 b, .slice none 0 0] 24) = V at *
    have e0 := s3.c 0 _ rfl
    have e1 := s3.c 1 _ rfl
    have e2 := s3.c 2 _ rfl
    have e3 := s3.c 3 _ rfl
    exact bodyPost_ret (v := .agg #[.int .i64 p, .int .i64 q, .int .i64 b, .slice none 0 0]) (by simp [results, Try.results10, go_sem, e0, e1, e2, e3]) rfl ⟨hb3, none, 0, 0, rfl, ⟨Rd.nil, by omega⟩, Nat.le_refl _, by omega⟩
theorem ownref_any (p q b : Int) (A : Option Addr) (n c : Nat) (d : List UInt8) (w : World) (hI : Byts w w.heap.size A n d) (hn : n ≤ 10000000) :
    Calls Try.prog 10 #[imV p q b A n c] w (OwnIm p q b d w) := by
  rcases Nat.eq_zero_or_pos n with rfl | h0
  · have hl := hI.length
    obtain rfl : d = [] := List.eq_nil_of_length_eq_zero hl
    exact ownref_nil p q b A c w
  · exact ownref_pos p q b A n c d w hI h0 hn
end Go.Proofs.Ytfkkppagbhllgaa

/-
  WHAT IS LEFT behind a row, in plain words; a list of texts in memory.
-/
set_option linter.unusedVariables false
set_option linter.unusedSimpArgs false
namespace Go.Proofs.Ytfkkppagbhllgaa
open Go.RowKit

theorem unpack_drop {z : Nat} : ∀ (need : Nat) (s : List UInt8) (o : List UInt8 × List UInt8), unpackT z need s = some o → ∃ k, k ≤ s.length ∧ o.2 = s.drop k
  | need, s, o, h => by
    by_cases h0 : need = 0
    · subst h0
      rw [unpackT_zero] at h
      cases h
      exact ⟨0, Nat.zero_le _, rfl⟩
    · cases s with
      | nil => rw [unpackT_nil h0] at h; cases h
      | cons c t =>
        rw [unpackT_cons _ _ _ _ h0] at h
        split at h
        · cases h
        · rename_i h1
          split at h
          · split at h
            · cases h
            · rename_i h2 h3
              cases hu : unpackT z (need - (c.toNat % 128 + 1)) (t.drop z) with
              | none => rw [hu] at h; cases h
              | some q =>
                rw [hu] at h
                simp only [Option.map_some, Option.some.injEq] at h
                subst h
                obtain ⟨k, hk, e⟩ := unpack_drop _ _ _ hu
                rw [List.length_drop] at hk
                refine ⟨z + k + 1, by simp; omega, ?_⟩
                dsimp only
                rw [e, List.drop_drop, List.drop_succ_cons]
          · split at h
            · cases h
            · rename_i h2 h3
              cases hu : unpackT z (need - (c.toNat % 128 + 1)) (t.drop ((c.toNat % 128 + 1) * z)) with
              | none => rw [hu] at h; cases h
              | some q =>
                rw [hu] at h
                simp only [Option.map_some, Option.some.injEq] at h
                subst h
                obtain ⟨k, hk, e⟩ := unpack_drop _ _ _ hu
                rw [List.length_drop] at hk
                refine ⟨(c.toNat % 128 + 1) * z + k + 1, by simp; omega, ?_⟩
                dsimp only
                rw [e, List.drop_drop, List.drop_succ_cons]
termination_by need => need
theorem takeRow_drop {packed : Bool} {z n : Nat} {s : List UInt8} {o : List UInt8 × List UInt8} (h : takeRow packed z n s = some o) : ∃ k, k ≤ s.length ∧ o.2 = s.drop k := by
  unfold takeRow at h
  split at h
  · exact unpack_drop _ _ _ h
  · split at h
    · cases h
    · cases h
      exact ⟨z * n, by omega, rfl⟩
theorem made_strs (n : Nat) : madeCells #[.string ⟨#[]⟩] n = ((List.replicate n ([] : List UInt8)).map strV).toArray := by
  apply Array.ext'
  refine List.ext_getElem? fun j => ?_
  by_cases hj : j < n
  · simp [madeCells, hj, Nat.mod_one, strV]
  · rw [List.getElem?_eq_none (by simp [size_madeCells]; omega), List.getElem?_eq_none (by simp; omega)]
theorem size_str : (Try.prog.info? 9).map (fun i => (i.zero, i.size, i.bytes)) = some (some (.string ⟨#[]⟩), 1, 16) := by kernel_rfl
theorem flatten_take {n : Nat} : ∀ (R : List (List UInt8)) (k : Nat), (∀ r ∈ R, r.length = n) → k ≤ R.length → (R.take k).flatten.length = k * n
  | R, 0, _, _ => by simp
  | [], k + 1, _, h => by simp at h
  | r :: R, k + 1, h, hk => by
    have ih := flatten_take R k (fun x hx => h x (List.mem_cons_of_mem _ hx)) (by simpa using hk)
    rw [List.take_succ_cons, List.flatten_cons, List.length_append, h r List.mem_cons_self, ih, Nat.succ_mul]; omega
end Go.Proofs.Ytfkkppagbhllgaa

/-
  THE LAWS TgaPieces AND TgaPacks.
-/
set_option linter.unusedVariables false
set_option linter.unusedSimpArgs false
set_option maxRecDepth 100000
namespace Go.Proofs.Ytfkkppagbhllgaa
open Go.RowKit

theorem len_many {z : Nat} {s : List UInt8} (h : s.length % z = 0) : s.length = manyT z s * z := many_mod h
theorem both_many {z : Nat} {s t : List UInt8} (h0 : 0 < z) (hs : s.length % z = 0) (ht : t.length % z = 0) : (s.length + t.length) / z = manyT z s + manyT z t := by
  have e1 := len_many hs
  have e2 := len_many ht
  generalize manyT z s = a at *
  generalize manyT z t = b at *
  rw [e1, e2, ← Nat.add_mul, Nat.mul_div_cancel _ h0]
theorem pieces_plain {z : Nat} {s t : List UInt8} (hz : z = 3 ∨ z = 4) (hs : s.length % z = 0) (ht : t.length % z = 0) (h : (s.length + t.length) / z ≤ 256) :
    unR (packT z s ++ packT z t) z (((s.length + t.length) / z : Nat) : Int) = (s ++ t, (((packT z s).length + (packT z t).length : Nat) : Int), 0) := by
  have h0 : 0 < z := by omega
  have h1 := unpack_pack h0 (len_many hs) (manyT z t) (packT z t)
  have h2 := unpack_pack h0 (len_many ht) 0 []
  rw [Nat.add_zero, List.append_nil, unpackT_zero] at h2
  rw [h2] at h1
  unfold unR unOk
  rw [decide_eq_true ⟨by omega, Int.natCast_nonneg _, Int.ofNat_le.2 h⟩, if_pos rfl, Int.toNat_natCast, Int.toNat_natCast, both_many h0 hs ht, h1]
  simp
theorem packs_plain {z : Nat} {s more : List UInt8} (hz : z = 3 ∨ z = 4) (hs : s.length % z = 0) (h : s.length / z ≤ 256) :
    unR (packT z s ++ more) z ((s.length / z : Nat) : Int) = (s, (((packT z s).length : Nat) : Int), 0) := by
  have h0 : 0 < z := by omega
  have h1 := unpack_pack h0 (len_many hs) 0 more
  rw [Nat.add_zero, unpackT_zero] at h1
  unfold unR unOk
  rw [decide_eq_true ⟨by omega, Int.natCast_nonneg _, Int.ofNat_le.2 h⟩, if_pos rfl, Int.toNat_natCast, Int.toNat_natCast]
  unfold manyT at h1
  rw [h1]
  simp
theorem packs_far {z : Int} {s : List UInt8} {k : Int} (h : 256 < k) : unR s z k = ([], 0, 1) := by
  unfold unR unOk
  rw [decide_eq_false (by omega), if_neg (by simp)]
theorem packR_no {s : List UInt8} {z : Int} (h : packOk s z = false) : packR s z = ([], 1) := by unfold packR; rw [h]; rfl
theorem packR_yes {s : List UInt8} {z : Nat} (hz : z = 3 ∨ z = 4) (h : s.length % z = 0) : packR s z = (packT z s, 0) := by
  unfold packR packOk
  rw [decide_eq_true (by omega), if_pos rfl, Int.toNat_natCast]
theorem packOk_nat {s : List UInt8} {z : Int} (h : packOk s z = true) : ∃ k : Nat, z = (k : Int) ∧ (k = 3 ∨ k = 4) ∧ s.length % k = 0 := by
  unfold packOk at h
  rw [decide_eq_true_iff] at h
  refine ⟨z.toNat, by omega, by omega, ?_⟩
  have e : ((z.toNat : Nat) : Int) = z := by omega
  have := h.2
  rw [← e] at this
  omega
theorem packR_code (s : List UInt8) (z : Int) : (packR s z).2 = 0 ∨ (packR s z).2 = 1 := by unfold packR; split <;> simp


set_option maxHeartbeats 1600000 in
theorem pieces_row (s t : List UInt8) (z : Int) (w : World) (bz : i64b z) (bs : s.length ≤ 9223372036854775807) (bt : t.length ≤ 9223372036854775807) :
    Calls Try.prog 8 #[.string ⟨s.toArray⟩, .string ⟨t.toArray⟩, .int .i64 z] w fun e w' => e = .returned (.bool true) ∧ Below w.heap.size w w' := by
  by_cases hs : 380 < s.length
  · have t1 : decide ((380 : Int) < (s.length : Int)) = true := decide_eq_true (by omega)
    clear bz bs bt hs
    go_enter Try.func8, Try.ntmps8
    go_wp2_with fail
    go_ret
    exact ⟨rfl, Below.refl _ _⟩
  have t1 : decide ((380 : Int) < (s.length : Int)) = false := decide_eq_false (by omega)
  by_cases ht : 380 < t.length
  · have t2 : decide ((380 : Int) < (t.length : Int)) = true := decide_eq_true (by omega)
    clear bz bs bt hs ht
    go_enter Try.func8, Try.ntmps8
    go_wp2_with fail
    go_ret
    exact ⟨rfl, Below.refl _ _⟩
  have t2 : decide ((380 : Int) < (t.length : Int)) = false := decide_eq_false (by omega)
  have K1 := Lib.hid (fun W => pack_any s z W (by omega) bz)
  have K2 := Lib.hid (fun W => pack_any t z W (by omega) bz)
  unfold SE at K1 K2
  cases p1 : packOk s z with
  | false =>
    rw [packR_no p1] at K1
    generalize packR t z = r2 at *
    obtain ⟨r2, x2⟩ := r2
    dsimp only at K1 K2
    clear p1 bz bs bt hs ht
    go_enter Try.func8, Try.ntmps8
    go_wp2_with fail
    refine (K1.out _).mono ?_
    rintro e w1 ⟨rfl, hb1⟩
    clear K1
    go_wp2_with fail
    refine (K2.out _).mono ?_
    rintro e w2 ⟨rfl, hb2⟩
    clear K2
    have HB := Lib.hid (hb1.trans (hb2.mono hb1.size))
    clear hb1 hb2
    go_wp2_with fail
    refine (pictured_any _).mono ?_
    rintro e wp ⟨rfl, hbp⟩
    have HBP := Lib.hid (HB.out.trans (hbp.mono HB.out.size))
    clear hbp
    go_wp2_with fail
    go_ret
    exact ⟨rfl, HBP.out⟩
  | true =>
    cases p2 : packOk t z with
    | false =>
      obtain ⟨k, rfl, hk, hm⟩ := packOk_nat p1
      rw [packR_yes hk hm] at K1
      rw [packR_no p2] at K2
      generalize packT k s = r1 at *
      dsimp only at K1 K2
      clear p1 p2 bz bs bt hs ht hm
      go_enter Try.func8, Try.ntmps8
      go_wp2_with fail
      refine (K1.out _).mono ?_
      rintro e w1 ⟨rfl, hb1⟩
      clear K1
      go_wp2_with fail
      refine (K2.out _).mono ?_
      rintro e w2 ⟨rfl, hb2⟩
      clear K2
      have HB := Lib.hid (hb1.trans (hb2.mono hb1.size))
      clear hb1 hb2
      go_wp2_with fail
      refine (pictured_any _).mono ?_
      rintro e wp ⟨rfl, hbp⟩
      have HBP := Lib.hid (HB.out.trans (hbp.mono HB.out.size))
      clear hbp
      go_wp2_with fail
      go_ret
      exact ⟨rfl, HBP.out⟩
    | true =>
      obtain ⟨k, rfl, hk, hm⟩ := packOk_nat p1
      obtain ⟨k', e, _, hm2⟩ := packOk_nat p2
      obtain rfl : k = k' := by omega
      rw [packR_yes hk hm] at K1
      rw [packR_yes hk hm2] at K2
      dsimp only at K1 K2
      have h256 : (s.length + t.length) / k ≤ 256 := by
        have : (s.length + t.length) / k ≤ (s.length + t.length) / 3 := Nat.div_le_div_left (by omega) (by omega)
        omega
      have l1 := pack_len (z := k) (s := s) (by omega) (len_many hm)
      have l2 := pack_len (z := k) (s := t) (by omega) (len_many hm2)
      have hm9 : manyT k s ≤ s.length ∧ manyT k t ≤ t.length := ⟨Nat.div_le_self _ _, Nat.div_le_self _ _⟩
      have K3 := Lib.hid (fun W => unp_any (packT k s ++ packT k t) k (((s.length + t.length) / k : Nat) : Int) W (by rw [List.length_append]; omega))
      rw [pieces_plain hk hm hm2 h256] at K3
      have b1 : (packT k s).length ≤ 1000 := by omega
      have b2 : (packT k t).length ≤ 1000 := by omega
      generalize packT k s = r1 at *
      generalize packT k t = r2 at *
      have t3 : decide ((k : Int) < 1) = false := decide_eq_false (by omega)
      have td : ((s.length : Int) + (t.length : Int)).tdiv (k : Int) = (((s.length + t.length) / k : Nat) : Int) := by rw [Int.tdiv_eq_ediv_of_nonneg (by omega)]; rfl
      have w1 : IntKind.i64.wrap ((s.length : Int) + (t.length : Int)) = (s.length : Int) + (t.length : Int) := by rw [IntKind.wrap_i64]; omega
      have w3 : IntKind.i64.wrap ((r1.length : Int) + (r2.length : Int)) = (r1.length : Int) + (r2.length : Int) := by rw [IntKind.wrap_i64]; omega
      have k0 : (k : Int) ≠ 0 := by omega
      have hcat := run_cat (P := Try.prog) r1 r2 (by omega)
      have hcat2 := run_cat (P := Try.prog) s t (by omega)
      generalize (s.length + t.length) / k = N at *
      have w2 : IntKind.i64.wrap ((N : Nat) : Int) = ((N : Nat) : Int) := by rw [IntKind.wrap_i64]; omega
      unfold UnpRes at K3
      dsimp only at K3
      have HBD := Lib.hid (⟨bz, bs, bt, hs, ht, hk, hm, hm2, h256, l1, l2, hm9, b1, b2⟩ : _ ∧ _ ∧ _ ∧ _ ∧ _ ∧ _ ∧ _ ∧ _ ∧ _ ∧ _ ∧ _ ∧ _ ∧ _ ∧ _)
      clear bz bs bt hs ht hk hm hm2 h256 l1 l2 hm9 b1 b2 p1 p2 e
      go_enter Try.func8, Try.ntmps8
      go_wp2_with fail
      refine (K1.out _).mono ?_
      rintro e w1 ⟨rfl, hb1⟩
      clear K1
      go_wp2_with fail
      refine (K2.out _).mono ?_
      rintro e w2 ⟨rfl, hb2⟩
      clear K2
      have HB := Lib.hid (hb1.trans (hb2.mono hb1.size))
      clear hb1 hb2
      go_wp2_with fail
      refine (K3.out _).mono ?_
      clear K3
      rintro e w3 ⟨rfl, hb3⟩
      have HB3 := Lib.hid (HB.out.trans (hb3.mono HB.out.size))
      clear hb3 HB
      unfold strV
      go_wp2_with fail
      refine (pictured_any _).mono ?_
      rintro e wp ⟨rfl, hbp⟩
      have HBP := Lib.hid (HB3.out.trans (hbp.mono HB3.out.size))
      clear hbp
      go_wp2_with fail
      go_ret
      exact ⟨rfl, HBP.out⟩


set_option maxHeartbeats 1600000 in
theorem packs_row (s : List UInt8) (z : Int) (more : List UInt8) (w : World) (bz : i64b z) (bs : s.length ≤ 9223372036854775807) (bt : more.length ≤ 9223372036854775807) :
    Calls Try.prog 7 #[.string ⟨s.toArray⟩, .int .i64 z, .string ⟨more.toArray⟩] w fun e w' => e = .returned (.bool true) ∧ Below w.heap.size w w' := by
  by_cases hs : 760 < s.length
  · have t1 : decide ((760 : Int) < (s.length : Int)) = true := decide_eq_true (by omega)
    clear bz bs bt hs
    go_enter Try.func7, Try.ntmps7
    go_wp2_with fail
    go_ret
    exact ⟨rfl, Below.refl _ _⟩
  have t1 : decide ((760 : Int) < (s.length : Int)) = false := decide_eq_false (by omega)
  by_cases ht : 300 < more.length
  · have t2 : decide ((300 : Int) < (more.length : Int)) = true := decide_eq_true (by omega)
    clear bz bs bt hs ht
    go_enter Try.func7, Try.ntmps7
    go_wp2_with fail
    go_ret
    exact ⟨rfl, Below.refl _ _⟩
  have t2 : decide ((300 : Int) < (more.length : Int)) = false := decide_eq_false (by omega)
  have K1 := Lib.hid (fun W => pack_any s z W (by omega) bz)
  unfold SE at K1
  cases p1 : packOk s z with
  | false =>
    rw [packR_no p1] at K1
    dsimp only at K1
    by_cases h3 : z = 3
    · subst h3
      have tm : (s.length : Int).tmod 3 = ((s.length % 3 : Nat) : Int) := by rw [Int.tmod_eq_emod_of_nonneg (by omega)]; rfl
      have h9 : s.length % 3 ≠ 0 ∧ s.length % 3 ≤ 4 := by
        unfold packOk at p1
        rw [decide_eq_false_iff_not] at p1
        have := Nat.mod_lt s.length (show 0 < 3 by omega)
        omega
      have t9 : (((s.length % 3 : Nat) : Int) != 0) = true := by rw [bne_iff_ne]; omega
      have w9 : IntKind.i64.wrap ((s.length % 3 : Nat) : Int) = ((s.length % 3 : Nat) : Int) := by rw [IntKind.wrap_i64]; omega
      generalize s.length % 3 = N at *
      clear p1 h9 bz bs bt hs ht
      go_enter Try.func7, Try.ntmps7
      go_wp2_with fail
      refine (K1.out _).mono ?_
      rintro e w1 ⟨rfl, hb1⟩
      clear K1
      have HB := Lib.hid hb1
      clear hb1
      go_wp2_with fail
      refine (pictured_any _).mono ?_
      rintro e wp ⟨rfl, hbp⟩
      have HBP := Lib.hid (HB.out.trans (hbp.mono HB.out.size))
      clear hbp
      go_wp2_with fail
      go_ret
      exact ⟨rfl, HBP.out⟩
    · by_cases h4 : z = 4
      · subst h4
        have tm : (s.length : Int).tmod 4 = ((s.length % 4 : Nat) : Int) := by rw [Int.tmod_eq_emod_of_nonneg (by omega)]; rfl
        have h9 : s.length % 4 ≠ 0 ∧ s.length % 4 ≤ 4 := by
          unfold packOk at p1
          rw [decide_eq_false_iff_not] at p1
          have := Nat.mod_lt s.length (show 0 < 4 by omega)
          omega
        have t9 : (((s.length % 4 : Nat) : Int) != 0) = true := by rw [bne_iff_ne]; omega
        have w9 : IntKind.i64.wrap ((s.length % 4 : Nat) : Int) = ((s.length % 4 : Nat) : Int) := by rw [IntKind.wrap_i64]; omega
        generalize s.length % 4 = N at *
        clear p1 h9 bz bs bt hs ht
        go_enter Try.func7, Try.ntmps7
        go_wp2_with fail
        refine (K1.out _).mono ?_
        rintro e w1 ⟨rfl, hb1⟩
        clear K1
        have HB := Lib.hid hb1
        clear hb1
        go_wp2_with fail
        refine (pictured_any _).mono ?_
        rintro e wp ⟨rfl, hbp⟩
        have HBP := Lib.hid (HB.out.trans (hbp.mono HB.out.size))
        clear hbp
        go_wp2_with fail
        go_ret
        exact ⟨rfl, HBP.out⟩
      · have t3 : (z != 3) = true := by rw [bne_iff_ne]; exact h3
        have t4 : (z != 4) = true := by rw [bne_iff_ne]; exact h4
        clear p1 bz bs bt hs ht h3 h4
        go_enter Try.func7, Try.ntmps7
        go_wp2_with fail
        refine (K1.out _).mono ?_
        rintro e w1 ⟨rfl, hb1⟩
        clear K1
        have HB := Lib.hid hb1
        clear hb1
        go_wp2_with fail
        refine (pictured_any _).mono ?_
        rintro e wp ⟨rfl, hbp⟩
        have HBP := Lib.hid (HB.out.trans (hbp.mono HB.out.size))
        clear hbp
        go_wp2_with fail
        go_ret
        exact ⟨rfl, HBP.out⟩
  | true =>
    obtain ⟨k, rfl, hk, hm⟩ := packOk_nat p1
    rw [packR_yes hk hm] at K1
    dsimp only at K1
    rcases hk with rfl | rfl
    · rw [show ((3 : Nat) : Int) = (3 : Int) from rfl] at *
      have hm2 := hm
      have KL := pack_len (z := 3) (s := s) (by omega) (len_many hm)
      have hm9 : manyT 3 s ≤ s.length := Nat.div_le_self _ _
      have td : (s.length : Int).tdiv 3 = ((s.length / 3 : Nat) : Int) := by rw [Int.tdiv_eq_ediv_of_nonneg (by omega)]; rfl
      have K3 := Lib.hid (fun W => unp_any (packT 3 s ++ more) 3 ((s.length / 3 : Nat) : Int) W (by rw [List.length_append]; omega))
      unfold manyT at KL
      have b1 : (packT 3 s).length ≤ 2000 := by omega
      have hM : s.length / 3 ≤ 300 := by omega
      by_cases h256 : 256 < s.length / 3
      · rw [packs_far (z := 3) (by omega)] at K3
        generalize packT 3 s = r1 at *
        generalize s.length / 3 = N at *
        have w2 : IntKind.i64.wrap ((N : Nat) : Int) = ((N : Nat) : Int) := by rw [IntKind.wrap_i64]; omega
        have t3 : decide ((256 : Int) < (N : Int)) = true := decide_eq_true (by omega)
        have hcat := run_cat (P := Try.prog) r1 more (by omega)
        unfold UnpRes at K3
        dsimp only at K3
        clear bz bs bt hs ht hm KL hm9 b1 p1 h256 hM hm2
        go_enter Try.func7, Try.ntmps7
        go_wp2_with fail
        refine (K1.out _).mono ?_
        rintro e w1 ⟨rfl, hb1⟩
        clear K1
        have HB := Lib.hid hb1
        clear hb1
        go_wp2_with fail
        refine (K3.out _).mono ?_
        clear K3
        rintro e w3 ⟨rfl, hb3⟩
        have HB3 := Lib.hid (HB.out.trans (hb3.mono HB.out.size))
        clear hb3 HB
        unfold strV
        go_wp2_with fail
        refine (pictured_any _).mono ?_
        rintro e wp ⟨rfl, hbp⟩
        have HBP := Lib.hid (HB3.out.trans (hbp.mono HB3.out.size))
        clear hbp
        go_wp2_with fail
        go_ret
        exact ⟨rfl, HBP.out⟩
      · have e3 := packs_plain (z := 3) (s := s) (more := more) (by omega) hm (by omega)
        have e9 : ((3 : Nat) : Int) = (3 : Int) := rfl
        rw [e9] at e3
        rw [e3] at K3
        generalize packT 3 s = r1 at *
        generalize s.length / 3 = N at *
        have w2 : IntKind.i64.wrap ((N : Nat) : Int) = ((N : Nat) : Int) := by rw [IntKind.wrap_i64]; omega
        have t3 : decide ((256 : Int) < (N : Int)) = false := decide_eq_false (by omega)
        have td2 : (N : Int).tdiv 128 = ((N / 128 : Nat) : Int) := by rw [Int.tdiv_eq_ediv_of_nonneg (by omega)]; rfl
        have hN : N / 128 ≤ 300 := by omega
        generalize N / 128 = Q at *
        have w4 : IntKind.i64.wrap ((Q : Nat) : Int) = ((Q : Nat) : Int) := by rw [IntKind.wrap_i64]; omega
        have w5 : IntKind.i64.wrap ((s.length : Int) + (Q : Int)) = (s.length : Int) + (Q : Int) := by rw [IntKind.wrap_i64]; omega
        have w6 : IntKind.i64.wrap ((s.length : Int) + (Q : Int) + 1) = (s.length : Int) + (Q : Int) + 1 := by rw [IntKind.wrap_i64]; omega
        have t6 : decide ((r1.length : Int) ≤ (s.length : Int) + (Q : Int) + 1) = true := decide_eq_true (by omega)
        have hcat := run_cat (P := Try.prog) r1 more (by omega)
        unfold UnpRes at K3
        dsimp only at K3
        clear bz bs bt hs ht hm KL hm9 b1 p1 h256 hM hm2 e3 e9 hN
        go_enter Try.func7, Try.ntmps7
        go_wp2_with fail
        refine (K1.out _).mono ?_
        rintro e w1 ⟨rfl, hb1⟩
        clear K1
        have HB := Lib.hid hb1
        clear hb1
        go_wp2_with fail
        refine (K3.out _).mono ?_
        clear K3
        rintro e w3 ⟨rfl, hb3⟩
        have HB3 := Lib.hid (HB.out.trans (hb3.mono HB.out.size))
        clear hb3 HB
        unfold strV
        go_wp2_with fail
        refine (pictured_any _).mono ?_
        rintro e wp ⟨rfl, hbp⟩
        have HBP := Lib.hid (HB3.out.trans (hbp.mono HB3.out.size))
        clear hbp
        go_wp2_with fail
        go_ret
        exact ⟨rfl, HBP.out⟩
    · rw [show ((4 : Nat) : Int) = (4 : Int) from rfl] at *
      have hm2 := hm
      have KL := pack_len (z := 4) (s := s) (by omega) (len_many hm)
      have hm9 : manyT 4 s ≤ s.length := Nat.div_le_self _ _
      have td : (s.length : Int).tdiv 4 = ((s.length / 4 : Nat) : Int) := by rw [Int.tdiv_eq_ediv_of_nonneg (by omega)]; rfl
      have K3 := Lib.hid (fun W => unp_any (packT 4 s ++ more) 4 ((s.length / 4 : Nat) : Int) W (by rw [List.length_append]; omega))
      unfold manyT at KL
      have b1 : (packT 4 s).length ≤ 2000 := by omega
      have hM : s.length / 4 ≤ 300 := by omega
      by_cases h256 : 256 < s.length / 4
      · rw [packs_far (z := 4) (by omega)] at K3
        generalize packT 4 s = r1 at *
        generalize s.length / 4 = N at *
        have w2 : IntKind.i64.wrap ((N : Nat) : Int) = ((N : Nat) : Int) := by rw [IntKind.wrap_i64]; omega
        have t3 : decide ((256 : Int) < (N : Int)) = true := decide_eq_true (by omega)
        have hcat := run_cat (P := Try.prog) r1 more (by omega)
        unfold UnpRes at K3
        dsimp only at K3
        clear bz bs bt hs ht hm KL hm9 b1 p1 h256 hM hm2
        go_enter Try.func7, Try.ntmps7
        go_wp2_with fail
        refine (K1.out _).mono ?_
        rintro e w1 ⟨rfl, hb1⟩
        clear K1
        have HB := Lib.hid hb1
        clear hb1
        go_wp2_with fail
        refine (K3.out _).mono ?_
        clear K3
        rintro e w3 ⟨rfl, hb3⟩
        have HB3 := Lib.hid (HB.out.trans (hb3.mono HB.out.size))
        clear hb3 HB
        unfold strV
        go_wp2_with fail
        refine (pictured_any _).mono ?_
        rintro e wp ⟨rfl, hbp⟩
        have HBP := Lib.hid (HB3.out.trans (hbp.mono HB3.out.size))
        clear hbp
        go_wp2_with fail
        go_ret
        exact ⟨rfl, HBP.out⟩
      · have e3 := packs_plain (z := 4) (s := s) (more := more) (by omega) hm (by omega)
        have e9 : ((4 : Nat) : Int) = (4 : Int) := rfl
        rw [e9] at e3
        rw [e3] at K3
        generalize packT 4 s = r1 at *
        generalize s.length / 4 = N at *
        have w2 : IntKind.i64.wrap ((N : Nat) : Int) = ((N : Nat) : Int) := by rw [IntKind.wrap_i64]; omega
        have t3 : decide ((256 : Int) < (N : Int)) = false := decide_eq_false (by omega)
        have td2 : (N : Int).tdiv 128 = ((N / 128 : Nat) : Int) := by rw [Int.tdiv_eq_ediv_of_nonneg (by omega)]; rfl
        have hN : N / 128 ≤ 300 := by omega
        generalize N / 128 = Q at *
        have w4 : IntKind.i64.wrap ((Q : Nat) : Int) = ((Q : Nat) : Int) := by rw [IntKind.wrap_i64]; omega
        have w5 : IntKind.i64.wrap ((s.length : Int) + (Q : Int)) = (s.length : Int) + (Q : Int) := by rw [IntKind.wrap_i64]; omega
        have w6 : IntKind.i64.wrap ((s.length : Int) + (Q : Int) + 1) = (s.length : Int) + (Q : Int) + 1 := by rw [IntKind.wrap_i64]; omega
        have t6 : decide ((r1.length : Int) ≤ (s.length : Int) + (Q : Int) + 1) = true := decide_eq_true (by omega)
        have hcat := run_cat (P := Try.prog) r1 more (by omega)
        unfold UnpRes at K3
        dsimp only at K3
        clear bz bs bt hs ht hm KL hm9 b1 p1 h256 hM hm2 e3 e9 hN
        go_enter Try.func7, Try.ntmps7
        go_wp2_with fail
        refine (K1.out _).mono ?_
        rintro e w1 ⟨rfl, hb1⟩
        clear K1
        have HB := Lib.hid hb1
        clear hb1
        go_wp2_with fail
        refine (K3.out _).mono ?_
        clear K3
        rintro e w3 ⟨rfl, hb3⟩
        have HB3 := Lib.hid (HB.out.trans (hb3.mono HB.out.size))
        clear hb3 HB
        unfold strV
        go_wp2_with fail
        refine (pictured_any _).mono ?_
        rintro e wp ⟨rfl, hbp⟩
        have HBP := Lib.hid (HB3.out.trans (hbp.mono HB3.out.size))
        clear hbp
        go_wp2_with fail
        go_ret
        exact ⟨rfl, HBP.out⟩

end Go.Proofs.Ytfkkppagbhllgaa

/-
  THE LAW TgaBack.
-/
set_option linter.unusedVariables false
set_option linter.unusedSimpArgs false
set_option maxRecDepth 100000
namespace Go.Proofs.Ytfkkppagbhllgaa
open Go.RowKit

theorem flatMap_le {f : Nat → List UInt8} {K : Nat} (h : ∀ i, (f i).length ≤ K) : ∀ (l : List Nat), (l.flatMap f).length ≤ l.length * K
  | [] => by simp
  | a :: l => by
    have := flatMap_le h l
    have := h a
    rw [List.flatMap_cons, List.length_append, List.length_cons, Nat.succ_mul]; omega
theorem putRow_two {z m : Nat} {t : List UInt8} (packed : Bool) (hz : z = 3 ∨ z = 4) (hm : t.length = m * z) : (putRow packed z t).length ≤ 2 * t.length := by
  unfold putRow
  cases packed with
  | false => simp; omega
  | true =>
    rw [if_pos rfl]
    have hmt : manyT z t = m := by unfold manyT; rw [hm]; exact Nat.mul_div_cancel _ (by omega)
    rcases Nat.eq_zero_or_pos m with rfl | h0
    · unfold packT
      rw [hmt, packFrom_done (by rw [hmt]; omega)]; simp
    · have := pack_len (z := z) (s := t) (by omega) (by rw [hmt]; exact hm)
      have h1 : m ≤ m * z := Nat.le_mul_of_pos_right _ (by omega)
      rw [hmt] at this
      omega
theorem put_short {m : Im} (h : m.ok) (packed top : Bool) : (putT m.w m.h m.z m.d packed top).length ≤ 44 + 2 * m.d.length := by
  unfold putT
  rw [List.length_append, List.length_append, headT_len, show footT.length = 26 from rfl]
  have h1 : ((List.range m.h).flatMap fun i => putRow packed m.z (turnedT m.z (rowT m.w m.z m.d (ordT m.h top i)))).length ≤ (List.range m.h).length * (2 * (m.w * m.z)) := by
    have e : ((List.range m.h).flatMap fun i => putRow packed m.z (turnedT m.z (rowT m.w m.z m.d (ordT m.h top i)))) = ((List.range m.h).flatMap fun i => if i < m.h then putRow packed m.z (turnedT m.z (rowT m.w m.z m.d (ordT m.h top i))) else []) := by
      rw [List.flatMap_def, List.flatMap_def]
      congr 1
      refine List.map_congr_left fun i hi => ?_
      rw [if_pos (List.mem_range.1 hi)]
    rw [e]
    refine flatMap_le (fun i => ?_) _
    split
    · rename_i hi
      have hr := row_len h (ordT_lt top hi)
      have := putRow_two (z := m.z) (m := m.w) (t := turnedT m.z (rowT m.w m.z m.d (ordT m.h top i))) packed h.z (by rw [turnedT_len, hr])
      rw [turnedT_len, hr] at this
      exact this
    · simp
  rw [List.length_range] at h1
  have h2 : m.h * (2 * (m.w * m.z)) = 2 * m.d.length := by
    rw [h.n, Nat.mul_left_comm, ← Nat.mul_assoc m.h, Nat.mul_comm m.h m.w]
  omega
/-- an image that may be put, in plain numbers -/
theorem isT_nat {p q b : Int} {n : Nat} {d : List UInt8} (hd : d.length = n) (h : isT p q b n = true) : ∃ m : Im, m.ok ∧ p = (m.w : Int) ∧ q = (m.h : Int) ∧ b = ((8 * m.z : Nat) : Int) ∧ m.d = d := by
  unfold isT formT at h
  simp only [Bool.and_eq_true, decide_eq_true_eq] at h
  obtain ⟨⟨g1, g2, g3, g4, g5⟩, g6⟩ := h
  obtain ⟨p, rfl⟩ : ∃ k : Nat, p = k := ⟨p.toNat, by omega⟩
  obtain ⟨q, rfl⟩ : ∃ k : Nat, q = k := ⟨q.toNat, by omega⟩
  obtain ⟨z, hz, rfl⟩ : ∃ k : Nat, (k = 3 ∨ k = 4) ∧ b = ((8 * k : Nat) : Int) := by
    rcases g5 with rfl | rfl
    · exact ⟨3, .inl rfl, rfl⟩
    · exact ⟨4, .inr rfl, rfl⟩
  have e8 : (((8 * z : Nat) : Int)) / 8 = (z : Int) := by omega
  rw [e8] at g6
  have g7 : n = p * q * z := by
    have : ((p * q * z : Nat) : Int) = (n : Int) := by rw [g6]; simp
    omega
  exact ⟨⟨p, q, z, d⟩, ⟨by show 1 ≤ p; omega, by show p ≤ 256; omega, by show 1 ≤ q; omega, by show q ≤ 256; omega, hz, by show d.length = p * q * z; rw [hd, g7]⟩, rfl, rfl, rfl, rfl⟩
theorem isT_ok {m : Im} (h : m.ok) : isT m.w m.h ((8 * m.z : Nat) : Int) m.d.length = true := by
  unfold isT
  rw [form_of h, Bool.true_and, decide_eq_true_iff]
  have e8 : (((8 * m.z : Nat) : Int)) / 8 = (m.z : Int) := by omega
  rw [e8, h.n]; simp
theorem putR_ok {m : Im} (h : m.ok) (packed top : Bool) : putR m.w m.h ((8 * m.z : Nat) : Int) m.d packed top = (putT m.w m.h m.z m.d packed top, 0) := by
  unfold putR
  rw [isT_ok h, if_pos rfl, Int.toNat_natCast, Int.toNat_natCast]
  rw [show ((((8 * m.z : Nat) : Int)) / 8).toNat = m.z by omega]
theorem putR_no {p q b : Int} {d : List UInt8} {packed top : Bool} (h : isT p q b d.length = false) : putR p q b d packed top = ([], 1) := by
  unfold putR; rw [h]; rfl

set_option maxHeartbeats 1600000 in
theorem back_row (p q b : Int) (A : Option Addr) (n c : Nat) (d : List UInt8) (packed top : Bool) (w : World) (hI : Byts w w.heap.size A n d) (hnc : n ≤ c) (hc : c ≤ 9223372036854775807) :
    Calls Try.prog 5 #[imV p q b A n c, .bool packed, .bool top] w fun e w' => e = .returned (.bool true) ∧ Below w.heap.size w w' := by
  have hb : Below w.heap.size w (w.alloc (.cells #[.int .i64 p, .int .i64 q, .int .i64 b, .slice A n c] 24)) := (Below.refl _ _).alloc (Nat.le_refl _) _
  have HM := Lib.hid (SlotN.new w [.int .i64 p, .int .i64 q, .int .i64 b, .slice A n c] #[.int .i64 p, .int .i64 q, .int .i64 b, .slice A n c] 24 rfl)
  have HB := Lib.hid hb
  have HI1 := Lib.hid ((hI.below hb (Nat.le_refl _)).more hb.size)
  have hz1 : w.heap.size < (w.alloc (.cells #[.int .i64 p, .int .i64 q, .int .i64 b, .slice A n c] 24)).heap.size := by simp
  have KB := Lib.hid (fun W => big_any p q b A n c W)
  have KI := Lib.hid (fun W => is_any p q b A n c W hI.len)
  have HL := Lib.hid hI.length
  clear hb hI
  unfold imV at KB KI ⊢
  have m0 := HM.out.c 0 _ rfl
  have m1 := HM.out.c 1 _ rfl
  have m2 := HM.out.c 2 _ rfl
  have m3 := HM.out.c 3 _ rfl
  by_cases h6 : 600 < n
  · rw [decide_eq_true (by omega)] at KB
    clear h6 hnc hc
    go_enter Try.func5, Try.ntmps5
    go_wp2_with fail
    refine (KB.out _).mono ?_
    rintro e w2 ⟨rfl, hb2⟩
    have HB2 := Lib.hid (HB.out.trans (hb2.mono HB.out.size))
    clear hb2 m0 m1 m2 m3
    go_wp2_with fail
    go_ret
    exact ⟨rfl, HB2.out⟩
  rw [decide_eq_false (by omega)] at KB
  cases hok : isT p q b n with
  | false =>
    have hr : putR p q b d packed top = ([], 1) := putR_no (by rw [HL.out]; exact hok)
    have KP := Lib.hid (fun W (hb : Below (w.alloc (.cells #[.int .i64 p, .int .i64 q, .int .i64 b, .slice A n c] 24)).heap.size (w.alloc (.cells #[.int .i64 p, .int .i64 q, .int .i64 b, .slice A n c] 24)) W) => put_any p q b A n c d packed top W ((HI1.out.below hb (Nat.le_refl _)).more hb.size) hnc hc)
    rw [hr] at KP
    rw [hok] at KI
    unfold SE imV at KP
    dsimp only at KP
    clear hr hok h6 hnc hc HI1
    go_enter Try.func5, Try.ntmps5
    go_wp2_with fail
    generalize w.alloc (.cells #[.int .i64 p, .int .i64 q, .int .i64 b, .slice A n c] 24) = W1 at *
    refine (KB.out _).mono ?_
    clear KB
    rintro e w2 ⟨rfl, hb2⟩
    have HM2 := Lib.hid (HM.out.below hb2 hz1)
    have HB2 := Lib.hid (HB.out.trans (hb2.mono HB.out.size))
    have KP2 := Lib.hid (KP.out _ hb2)
    have hz2 : w.heap.size < w2.heap.size := Nat.lt_of_lt_of_le hz1 hb2.size
    clear hb2 m0 m1 m2 m3 HM HB KP hz1
    have m0 := HM2.out.c 0 _ rfl
    have m1 := HM2.out.c 1 _ rfl
    have m2 := HM2.out.c 2 _ rfl
    have m3 := HM2.out.c 3 _ rfl
    go_wp2_with fail
    refine KP2.out.mono ?_
    clear KP2
    rintro e w3 ⟨rfl, hb3⟩
    have HM3 := Lib.hid (HM2.out.below hb3 hz2)
    have HB3 := Lib.hid (HB2.out.trans (hb3.mono HB2.out.size))
    have hz3 : w.heap.size < w3.heap.size := Nat.lt_of_lt_of_le hz2 hb3.size
    clear hb3 m0 m1 m2 m3 HM2 HB2 hz2
    go_wp2_with fail
    refine (pictured_any _).mono ?_
    rintro e w4 ⟨rfl, hb4⟩
    have HM4 := Lib.hid (HM3.out.below hb4 hz3)
    have HB4 := Lib.hid (HB3.out.trans (hb4.mono HB3.out.size))
    clear hb4 HM3 HB3 hz3
    have m0 := HM4.out.c 0 _ rfl
    have m1 := HM4.out.c 1 _ rfl
    have m2 := HM4.out.c 2 _ rfl
    have m3 := HM4.out.c 3 _ rfl
    go_wp2_with fail
    refine (KI.out _).mono ?_
    rintro e w5 ⟨rfl, hb5⟩
    have HB5 := Lib.hid (HB4.out.trans (hb5.mono HB4.out.size))
    clear hb5 HB4 HM4 m0 m1 m2 m3
    go_wp2_with fail
    go_ret
    exact ⟨rfl, HB5.out⟩
  | true =>
    obtain ⟨m, hm, rfl, rfl, rfl, rfl⟩ := isT_nat HL.out hok
    have hs := put_short hm packed top
    have KP := Lib.hid (fun W (hb : Below (w.alloc (.cells #[.int .i64 (m.w : Int), .int .i64 (m.h : Int), .int .i64 ((8 * m.z : Nat) : Int), .slice A n c] 24)).heap.size (w.alloc (.cells #[.int .i64 (m.w : Int), .int .i64 (m.h : Int), .int .i64 ((8 * m.z : Nat) : Int), .slice A n c] 24)) W) (pk : Bool) =>
      put_any m.w m.h ((8 * m.z : Nat) : Int) A n c m.d pk top W ((HI1.out.below hb (Nat.le_refl _)).more hb.size) hnc hc)
    simp only [putR_ok hm] at KP
    have KG := Lib.hid (fun W => get_any (putT m.w m.h m.z m.d packed top) W (by have := HL.out; omega))
    unfold GetRes at KG
    simp only [get_put hm] at KG
    have HLT : Hid ((putT m.w m.h m.z m.d false top).length = 44 + n) := Lib.hid (by rw [put_len hm, HL.out])
    have hn6 : n ≤ 600 := by omega
    have KS := Lib.hid (fun W A' n' c' (hb : Below (w.alloc (.cells #[.int .i64 (m.w : Int), .int .i64 (m.h : Int), .int .i64 ((8 * m.z : Nat) : Int), .slice A n c] 24)).heap.size (w.alloc (.cells #[.int .i64 (m.w : Int), .int .i64 (m.h : Int), .int .i64 ((8 * m.z : Nat) : Int), .slice A n c] 24)) W) (hy : Byts W W.heap.size A' n' m.d) =>
      same_im W.heap.size m.w m.h ((8 * m.z : Nat) : Int) A n c m.d m.w m.h ((8 * m.z : Nat) : Int) A' n' c' m.d W ((HI1.out.below hb (Nat.le_refl _)).more hb.size) hy (Nat.le_refl _))
    have hST : packed = false → putT m.w m.h m.z m.d packed top = putT m.w m.h m.z m.d false top := fun e => by rw [e]
    have HST := Lib.hid hST
    have HE : Hid (∀ m', some m = some m' → m' = m) := Lib.hid fun m' e => by injection e with e; exact e.symm
    obtain ⟨S, hS⟩ : ∃ S, S = putT m.w m.h m.z m.d packed top := ⟨_, rfl⟩
    obtain ⟨T, hT⟩ : ∃ T, T = putT m.w m.h m.z m.d false top := ⟨_, rfl⟩
    have KP1 := Lib.hid (fun W hb => KP.out W hb packed)
    have KP2 := Lib.hid (fun W hb => KP.out W hb false)
    rw [← hS] at KP1 KG HST
    rw [← hT] at KP2 HLT HST
    unfold SE imV at KP1 KP2
    simp only [BEq.rfl, Bool.and_self] at KS
    unfold imV at KS KG
    clear hST hok h6 hnc hc HI1 hs hm KP hS hT KI
    generalize hmw : (m.w : Int) = mw at *
    generalize hmh : (m.h : Int) = mh at *
    generalize hmb : ((8 * m.z : Nat) : Int) = mb at *
    have HMW := Lib.hid (⟨hmw, hmh, hmb⟩ : _ ∧ _ ∧ _)
    clear hmw hmh hmb
    have w44 : IntKind.i64.wrap (44 + (n : Int)) = 44 + (n : Int) := by rw [IntKind.wrap_i64]; omega
    have t44 : ((T.length : Int) == 44 + (n : Int)) = true := by rw [HLT.out]; simp
    go_enter Try.func5, Try.ntmps5
    go_wp2_with fail
    generalize w.alloc (.cells #[.int .i64 mw, .int .i64 mh, .int .i64 mb, .slice A n c] 24) = W1 at *
    refine (KB.out _).mono ?_
    clear KB
    rintro e w2 ⟨rfl, hb2⟩
    have HM2 := Lib.hid (HM.out.below hb2 hz1)
    have HB2 := Lib.hid hb2
    clear hb2 m0 m1 m2 m3
    have m0 := HM2.out.c 0 _ rfl
    have m1 := HM2.out.c 1 _ rfl
    have m2 := HM2.out.c 2 _ rfl
    have m3 := HM2.out.c 3 _ rfl
    go_wp2_with fail
    refine (KP1.out _ HB2.out).mono ?_
    clear KP1
    rintro e w3 ⟨rfl, hb3⟩
    have HB3 := Lib.hid (HB2.out.trans (hb3.mono HB2.out.size))
    clear hb3 m0 m1 m2 m3 HM2 HB2
    go_wp2_with fail
    refine (KG.out _).mono ?_
    clear KG
    rintro e w4 ⟨hb4, h4⟩
    rcases h4 with ⟨h4, _⟩ | ⟨m', A', n', c', hmm, rfl, hy, hy1, hy2⟩
    · cases h4
    obtain rfl := HE.out m' hmm
    have HB4 := Lib.hid (HB3.out.trans (hb4.mono HB3.out.size))
    have HY4 := Lib.hid hy
    clear hb4 hmm hy hy1 hy2 HB3
    obtain ⟨hmw, hmh, hmb⟩ := HMW.out
    rw [hmw, hmh, hmb]
    clear hmw hmh hmb
    have hbb : Below w4.heap.size w4 (w4.alloc (.cells #[.int .i64 mw, .int .i64 mh, .int .i64 mb, .slice A' n' c'] 24)) := (Below.refl _ _).alloc (Nat.le_refl _) _
    have HN5 := Lib.hid (SlotN.new w4 [.int .i64 mw, .int .i64 mh, .int .i64 mb, .slice A' n' c'] #[.int .i64 mw, .int .i64 mh, .int .i64 mb, .slice A' n' c'] 24 rfl)
    have HB5 := Lib.hid (HB4.out.trans (hbb.mono HB4.out.size))
    have HY5 := Lib.hid ((HY4.out.below hbb (Nat.le_refl _)).more hbb.size)
    have HM5 := Lib.hid (HM.out.below HB5.out hz1)
    have hz5 : w4.heap.size < (w4.alloc (.cells #[.int .i64 mw, .int .i64 mh, .int .i64 mb, .slice A' n' c'] 24)).heap.size := by simp
    clear HY4 HB4 hbb
    have m0 := HM5.out.c 0 _ rfl
    have m1 := HM5.out.c 1 _ rfl
    have m2 := HM5.out.c 2 _ rfl
    have m3 := HM5.out.c 3 _ rfl
    go_wp2_with fail
    generalize (w4.alloc (.cells #[.int .i64 mw, .int .i64 mh, .int .i64 mb, .slice A' n' c'] 24)) = W5 at *
    refine (KP2.out _ HB5.out).mono ?_
    clear KP2
    rintro e w6 ⟨rfl, hb6⟩
    have HB6 := Lib.hid (HB5.out.trans (hb6.mono HB5.out.size))
    have HY6 := Lib.hid ((HY5.out.below hb6 (Nat.le_refl _)).more hb6.size)
    have HN6 := Lib.hid (HN5.out.below hb6 hz5)
    have hz6 : w4.heap.size < w6.heap.size := Nat.lt_of_lt_of_le hz5 hb6.size
    clear HB5 HY5 HN5 hz5 hb6 HM5 m0 m1 m2 m3
    go_wp2_with fail
    refine (pictured_any _).mono ?_
    rintro e w7 ⟨rfl, hb7⟩
    have HB7 := Lib.hid (HB6.out.trans (hb7.mono HB6.out.size))
    have HY7 := Lib.hid ((HY6.out.below hb7 (Nat.le_refl _)).more hb7.size)
    have HN7 := Lib.hid (HN6.out.below hb7 hz6)
    clear HB6 HY6 HN6 hz6 hb7
    have HM7 := Lib.hid (HM.out.below HB7.out hz1)
    have m0 := HM7.out.c 0 _ rfl
    have m1 := HM7.out.c 1 _ rfl
    have m2 := HM7.out.c 2 _ rfl
    have m3 := HM7.out.c 3 _ rfl
    have n0 := HN7.out.c 0 _ rfl
    have n1 := HN7.out.c 1 _ rfl
    have n2 := HN7.out.c 2 _ rfl
    have n3 := HN7.out.c 3 _ rfl
    have KS7 := Lib.hid (KS.out w7 A' n' c' HB7.out HY7.out)
    clear KS
    go_wp2_with fail
    refine KS7.out.mono ?_
    clear KS7
    rintro e w8 ⟨rfl, hb8⟩
    have HB8 := Lib.hid (HB7.out.trans (hb8.mono HB7.out.size))
    clear HB7 HY7 HN7 hb8 m0 m1 m2 m3 n0 n1 n2 n3 HM7
    have HM8 := Lib.hid (HM.out.below HB8.out hz1)
    have m3 := HM8.out.c 3 _ rfl
    have HBZ := Lib.hid (HB.out.trans (HB8.out.mono HB.out.size))
    cases packed with
    | true =>
      go_wp2_with fail
      go_ret
      exact ⟨rfl, HBZ.out⟩
    | false =>
      obtain rfl := HST.out rfl
      go_wp2_with fail
      go_ret
      exact ⟨rfl, HBZ.out⟩
end Go.Proofs.Ytfkkppagbhllgaa

/-
  THE WALK OF limewashref29.row.
-/
set_option linter.unusedVariables false
set_option linter.unusedSimpArgs false
set_option maxRecDepth 100000
namespace Go.Proofs.Ytfkkppagbhllgaa
open Go.RowKit

set_option maxHeartbeats 1600000 in
theorem rowref_any (m : Im) (A : Option Addr) (n c : Nat) (y : Nat) (k : Int) (w : World) (hI : Byts w w.heap.size A n m.d) (hnc : n ≤ c) (hc : c ≤ 9223372036854775807) (hok : m.ok) (hy : y < m.h) (hk : k = (y : Int)) :
    Calls Try.prog 36 #[imV m.w m.h ((8 * m.z : Nat) : Int) A n c, .int .i64 k] w (SR w (turnedT m.z (rowT m.w m.z m.d y))) := by
  subst hk
  have hb : Below w.heap.size w (w.alloc (.cells #[.int .i64 (m.w : Int), .int .i64 (m.h : Int), .int .i64 ((8 * m.z : Nat) : Int), .slice A n c] 24)) := (Below.refl _ _).alloc (Nat.le_refl _) _
  have s1 := SlotN.new w [.int .i64 (m.w : Int), .int .i64 (m.h : Int), .int .i64 ((8 * m.z : Nat) : Int), .slice A n c] #[.int .i64 (m.w : Int), .int .i64 (m.h : Int), .int .i64 ((8 * m.z : Nat) : Int), .slice A n c] 24 rfl
  have hI1 := hI.below hb.drew (Nat.le_refl _)
  have hlen := hI.length
  have hw1 := hok.w1
  have hw2 := hok.w2
  have hz := hok.z
  have hn := hok.n
  obtain ⟨N, hN⟩ : ∃ N, N = m.w * m.z := ⟨_, rfl⟩
  have hN1 : N ≤ 256 * 4 := by rw [hN]; exact Nat.mul_le_mul hw2 (by omega)
  have hN0 : 0 < N := by rw [hN]; exact Nat.mul_pos hw1 (by omega)
  obtain ⟨M, hM⟩ : ∃ M, M = N * y := ⟨_, rfl⟩
  have hMN : M + N ≤ n := by
    rw [hM, ← Nat.mul_succ, ← hlen, hn, Nat.mul_assoc m.w m.h, Nat.mul_comm m.h, ← Nat.mul_assoc, ← hN]
    exact Nat.mul_le_mul_left _ hy
  have hrl : (rowT m.w m.z m.d y).length = m.w * m.z := row_len hok hy
  have e1 : (m.w : Int) * (m.z : Int) = (N : Int) := by rw [hN]; simp
  have e2 : (N : Int) * (y : Int) = (M : Int) := by rw [hM]; simp
  have hn9 : n ≤ 262144 := by
    rw [← hlen, hn]
    have h5 : m.w * m.h * m.z ≤ 256 * 256 * m.z := Nat.mul_le_mul_right _ (Nat.mul_le_mul hok.w2 hok.h2)
    omega
  have td8 : ((8 * m.z : Nat) : Int).tdiv 8 = (m.z : Int) := by rw [Int.tdiv_eq_ediv_of_nonneg (by omega)]; omega
  obtain ⟨ad, rfl, hbl, kc⟩ := hI1.text M N (c - M) hN0 hMN
  have hrT : rowT m.w m.z m.d y = (m.d.drop M).take N := by unfold rowT; rw [← hN, ← hM]
  rw [← hrT] at kc
  have hsl := slice_bytes ad n c M N (M : Int) ((M : Int) + (N : Int)) rfl (by simp) hN0 (by omega)
  have KT := Lib.hid (fun W => turnref_any m.z m.w (rowT m.w m.z m.d y) W hz (by rw [hrl, ← hN]; omega) hrl hw1)
  have HB := Lib.hid hb
  generalize rowT m.w m.z m.d y = T at *
  have FIN : Hid (∀ w', Below w.heap.size w w' → SR w (turnedT m.z T) (.returned (.string ⟨(turnedT m.z T).toArray⟩)) w') := Lib.hid fun w' hb => ⟨rfl, hb⟩
  generalize hQ : SR w (turnedT m.z T) = Qp at FIN ⊢
  clear hQ
  have h24 : ((8 * m.z : Nat) : Int) ≤ 32 := by omega
  have h00 : 0 ≤ ((8 * m.z : Nat) : Int) := by omega
  generalize ((8 * m.z : Nat) : Int) = zz at *
  have z9 : m.z ≤ 4 := by omega
  unfold imV
  generalize m.z = z at *
  generalize m.w = p at *
  generalize m.h = q at *
  generalize m.d = d at *
  have wz : IntKind.i64.wrap (z : Int) = (z : Int) := by rw [IntKind.wrap_i64]; omega
  have wN : IntKind.i64.wrap (N : Int) = (N : Int) := by rw [IntKind.wrap_i64]; omega
  have wM : IntKind.i64.wrap (M : Int) = (M : Int) := by rw [IntKind.wrap_i64]; omega
  have wMN : IntKind.i64.wrap ((M : Int) + (N : Int)) = (M : Int) + (N : Int) := by rw [IntKind.wrap_i64]; omega
  have m0 := s1.c 0 _ rfl
  have m2 := s1.c 2 _ rfl
  have m3 := s1.c 3 _ rfl
  clear s1 hI1 hI hlen hw1 hw2 hz hn hN hM hrl hrT hb hok hy
  unfold SR at KT
  go_enter Try.func36, Try.ntmps36
  go_wp2_with fail
  generalize w.alloc (.cells #[.int .i64 (p : Int), .int .i64 (q : Int), .int .i64 zz, .slice (some ad) n c] 24) = W1 at *
  go_region_with (go_at_call 50; refine (KT.out _).mono ?_; rintro e wx ⟨rfl, hbx⟩)
  all_goals
    have HX := Lib.hid (HB.out.drew.trans (hbx.mono HB.out.size))
    clear hbx
    go_wp2_with fail
    go_ret
    exact FIN.out _ HX.out
end Go.Proofs.Ytfkkppagbhllgaa
