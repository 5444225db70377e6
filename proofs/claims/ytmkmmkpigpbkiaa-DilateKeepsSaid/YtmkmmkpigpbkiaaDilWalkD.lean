/-
  THE WALK OF dilate.open.
-/
import Derived.Test.YtmkmmkpigpbkiaaDilWalkC
import Derived.Test.YtmkmmkpigpbkiaaSlot
set_option linter.unusedVariables false
set_option linter.unusedSimpArgs false
namespace Go.Proofs.Ytmkmmkpigpbkiaa
open Go.RowKit

def picV (ww h : Int) (A : Option Addr) (n c : Nat) : Value := .agg #[.int .i64 ww, .int .i64 h, .slice A n c]
def openOk (ww pad : Int) (v : List Int) : Bool := levelOk ww v && padOk pad

def OpenRes (ww pad : Int) (A : Option Addr) (n c : Nat) (v : List Int) (w : World) (e : Ending) (w' : World) : Prop :=
  e = .returned (.tuple #[if openOk ww pad v then picV ww ((n : Int) / ww) A n c else .agg #[.int .i64 0, .int .i64 0, .slice none 0 0], .bool (openOk ww pad v)]) ∧ Below w.heap.size w w'

set_option maxHeartbeats 800000 in
theorem open_any (A : Option Addr) (n c : Nat) (v : List Int) (ww pad : Int) (w : World) (hI : Ints w w.heap.size A n v) (hn : n ≤ 1000) (bw : i64b ww) :
    Calls Try.prog 19 #[.int .i64 ww, .int .i64 pad, .slice A n c] w (OpenRes ww pad A n c v w) := by
  have HL := Lib.hid (fun W (hW : Below w.heap.size w W) => level_any A n c v ww W ((hI.below hW (Nat.le_refl _)).more hW.size) hn bw)
  unfold LevelRes at HL
  have hs0 := Lib.hid (SlotN.new w [.int .i64 0, .int .i64 0, .slice none 0 0] #[.int .i64 0, .int .i64 0, .slice none 0 0] 41 rfl)
  cases h1 : levelOk ww v with
  | false =>
    have hno : Hid (openOk ww pad v = false) := Lib.hid (by unfold openOk; rw [h1]; rfl)
    rw [h1] at HL
    clear h1
    go_enter Try.func19, Try.ntmps19
    go_wp2_with fail
    refine (HL.out _ ((Below.refl _ _).alloc (Nat.le_refl _) _)).mono ?_
    rintro e w1 ⟨A1, n1, c1, rfl, hb1⟩
    have hs1 := hs0.out.below hb1 (by simp)
    have hbw := below_alloc_lt (by simpa using hb1) (Nat.le_refl _)
    have c0 := hs1.c 0 _ rfl
    have c1 := hs1.c 1 _ rfl
    have c2 := hs1.c 2 _ rfl
    have f0 := hs1.f 0
    have f1 := hs1.f 1
    have f2 := hs1.f 2
    clear hs0 hs1 hb1
    go_wp2_with fail
    refine bodyPost_ret (v := .tuple #[.agg #[.int .i64 0, .int .i64 0, .slice none 0 0], .bool false]) (by simp [results, Try.results19, go_sem, c0, c1, c2]) rfl ⟨by rw [hno.out]; rfl, ?_⟩
    exact ((hbw.setCell (by exact Nat.le_refl _) _).setCell (by exact Nat.le_refl _) _).setCell (by exact Nat.le_refl _) _
  | true =>
    rw [h1] at HL
    simp only [if_true] at HL
    obtain ⟨q, rfl⟩ : ∃ q : Nat, ww = q := ⟨ww.toNat, by have := (levelOk_iff.1 h1).1; omega⟩
    have q1 := (levelOk_iff.1 h1).1
    by_cases hp0 : pad < 0
    · have hno : Hid (openOk q pad v = false) := Lib.hid (by
        cases e : padOk pad with
        | false => unfold openOk; rw [e, Bool.and_false]
        | true => have := (padOk_iff.1 e).1; omega)
      have e0 : decide (pad < 0) = true := decide_eq_true hp0
      clear h1
      go_enter Try.func19, Try.ntmps19
      go_wp2_with fail
      refine (HL.out _ ((Below.refl _ _).alloc (Nat.le_refl _) _)).mono ?_
      rintro e w1 ⟨A1, n1, c1, rfl, hb1⟩
      have hs1 := hs0.out.below hb1 (by simp)
      have hbw := below_alloc_lt (by simpa using hb1) (Nat.le_refl _)
      have c0 := hs1.c 0 _ rfl
      have c1 := hs1.c 1 _ rfl
      have c2 := hs1.c 2 _ rfl
      have f0 := hs1.f 0
      have f1 := hs1.f 1
      have f2 := hs1.f 2
      clear hs0 hs1 hb1
      go_wp2_with fail
      refine bodyPost_ret (v := .tuple #[.agg #[.int .i64 0, .int .i64 0, .slice none 0 0], .bool false]) (by simp [results, Try.results19, go_sem, c0, c1, c2]) rfl ⟨by rw [hno.out]; rfl, ?_⟩
      exact ((hbw.setCell (by exact Nat.le_refl _) _).setCell (by exact Nat.le_refl _) _).setCell (by exact Nat.le_refl _) _
    have e0 : decide (pad < 0) = false := decide_eq_false hp0
    by_cases hp1 : 8 < pad
    · have hno : Hid (openOk q pad v = false) := Lib.hid (by
        cases e : padOk pad with
        | false => unfold openOk; rw [e, Bool.and_false]
        | true => have := (padOk_iff.1 e).2; omega)
      have e1 : decide (8 < pad) = true := decide_eq_true hp1
      clear h1
      go_enter Try.func19, Try.ntmps19
      go_wp2_with fail
      refine (HL.out _ ((Below.refl _ _).alloc (Nat.le_refl _) _)).mono ?_
      rintro e w1 ⟨A1, n1, c1, rfl, hb1⟩
      have hs1 := hs0.out.below hb1 (by simp)
      have hbw := below_alloc_lt (by simpa using hb1) (Nat.le_refl _)
      have c0 := hs1.c 0 _ rfl
      have c1 := hs1.c 1 _ rfl
      have c2 := hs1.c 2 _ rfl
      have f0 := hs1.f 0
      have f1 := hs1.f 1
      have f2 := hs1.f 2
      clear hs0 hs1 hb1
      go_wp2_with fail
      refine bodyPost_ret (v := .tuple #[.agg #[.int .i64 0, .int .i64 0, .slice none 0 0], .bool false]) (by simp [results, Try.results19, go_sem, c0, c1, c2]) rfl ⟨by rw [hno.out]; rfl, ?_⟩
      exact ((hbw.setCell (by exact Nat.le_refl _) _).setCell (by exact Nat.le_refl _) _).setCell (by exact Nat.le_refl _) _
    have e1 : decide (8 < pad) = false := decide_eq_false hp1
    have n0 : 0 ≤ (n : Int) / q := Int.ediv_nonneg (by omega) (by omega)
    have n1 : (n : Int) / q ≤ 1000 := Int.le_trans (Int.ediv_le_self _ (by omega)) (by omega)
    have hyes : Hid (openOk q pad v = true) := Lib.hid (by unfold openOk; rw [h1, padOk_iff.2 ⟨by omega, by omega⟩]; rfl)
    clear h1
    go_enter Try.func19, Try.ntmps19
    go_wp2_with fail
    refine (HL.out _ ((Below.refl _ _).alloc (Nat.le_refl _) _)).mono ?_
    rintro e w1 ⟨A1, n1, c1, rfl, hb1⟩
    have hs1 := hs0.out.below hb1 (by simp)
    have hbw := below_alloc_lt (by simpa using hb1) (Nat.le_refl _)
    have c0 := hs1.c 0 _ rfl
    have c1 := hs1.c 1 _ rfl
    have c2 := hs1.c 2 _ rfl
    have f0 := hs1.f 0
    have f1 := hs1.f 1
    have f2 := hs1.f 2
    clear hs0 hs1 hb1
    go_wp2_with fail
    refine bodyPost_ret (v := .tuple #[.agg #[.int .i64 q, .int .i64 ((n : Int) / q), .slice A n c], .bool true]) (by simp [results, Try.results19, go_sem, c0, c1, c2]) rfl ⟨by rw [hyes.out]; rfl, ?_⟩
    exact ((hbw.setCell (by exact Nat.le_refl _) _).setCell (by exact Nat.le_refl _) _).setCell (by exact Nat.le_refl _) _
end Go.Proofs.Ytmkmmkpigpbkiaa
