/-
  THE WALKS OF limewashref01.plus, minus, size.
-/
import Derived.Test.YtkdffcoofijhkaaDoorNumWalkA
import Derived.Test.YtkdffcoofijhkaaDoorLex
set_option linter.unusedVariables false
set_option linter.unusedSimpArgs false
set_option maxRecDepth 4000
namespace Go.Proofs.YtkdffcoofijhkaaDoor
open Go.RowKit

/-- A list of digits is handed back, in memory of the call's own. -/
def DigsRes (w : World) (v : Nat) (e : Ending) (w' : World) : Prop :=
  ∃ A n c out, e = .returned (.slice A n c) ∧ w'.ownsRow w.heap.size 3 1 (.slice A n c) n (cellsI out) ∧ dOk out ∧ val out = v ∧ n ≤ 1001 ∧ Below w.heap.size w w'

theorem tmod_nat (n : Nat) : (n : Int).tmod 10 = ((n % 10 : Nat) : Int) := rfl
theorem wrapI (n : Int) (h : -9223372036854775808 ≤ n ∧ n ≤ 9223372036854775807) : IntKind.i64.wrap n = n := by
  rw [IntKind.wrap_i64]; omega
theorem tdiv_nat (n : Nat) : (n : Int).tdiv 10 = ((n / 10 : Nat) : Int) := rfl

attribute [local go_sem ↓] Go.wp_at_zero Go.wp_at_succ
set_option maxHeartbeats 1600000 in
theorem plus_any (B1 B2 : Nat) (A1 A2 : Option Addr) (n1 c1 n2 c2 : Nat) (b1 b2 : Bool) (x y : Int) (w : World) (h1 : NumAt w B1 A1 n1 c1 x) (h2 : NumAt w B2 A2 n2 c2 y) (hB1 : B1 ≤ w.heap.size) (hB2 : B2 ≤ w.heap.size) (hl1 : n1 ≤ 1000) (hl2 : n2 ≤ 1000) :
    Calls Tryd.prog 67 #[.agg #[.bool b1, .slice A1 n1 c1], .agg #[.bool b2, .slice A2 n2 c2]] w (DigsRes w (x.natAbs + y.natAbs)) := by
  obtain ⟨i0, hi0, hz0, hz1, hz2⟩ := info_parts size_int'
  have hlen1 := Lib.hid h1.len
  have hlen2 := Lib.hid h2.len
  have D1 : Hid (∀ (i : Nat) (W : World), Below w.heap.size w W → Calls Tryd.prog 88 #[.agg #[.bool b1, .slice A1 n1 c1], .int .i64 i] W fun e w' => e = .returned (.int .i64 (dig x.natAbs i : Nat)) ∧ Below W.heap.size W w') := Lib.hid fun i W hW => digit_any B1 b1 A1 n1 c1 x i W (h1.below hW hB1) (Nat.le_trans hB1 hW.size)
  have D2 : Hid (∀ (i : Nat) (W : World), Below w.heap.size w W → Calls Tryd.prog 88 #[.agg #[.bool b2, .slice A2 n2 c2], .int .i64 i] W fun e w' => e = .returned (.int .i64 (dig y.natAbs i : Nat)) ∧ Below W.heap.size W w') := Lib.hid fun i W hW => digit_any B2 b2 A2 n2 c2 y i W (h2.below hW hB2) (Nat.le_trans hB2 hW.size)
  clear h1 h2
  obtain ⟨m, hm⟩ : ∃ m, n1 < n2 ∧ m = n2 ∨ n2 ≤ n1 ∧ m = n1 := by rcases Nat.lt_or_ge n1 n2 with h | h; exact ⟨_, .inl ⟨h, rfl⟩⟩; exact ⟨_, .inr ⟨h, rfl⟩⟩
  rcases hm with ⟨hmm, hm⟩ | ⟨hmm, hm⟩
  all_goals
    go_enter Tryd.func67, Tryd.ntmps67
    go_wp2_with fail
    go_loopw [5, 6, 7] (fun u cr i wr => ∃ (k : Nat) (out : List Int) (ca : Nat), k ≤ m + 1 ∧ i = .int .i64 k ∧ cr = .int .i64 ca ∧ wr.ownsRow (w.heap.size + 2) 3 1 u k (cellsI out) ∧ Hid (PlusAt x.natAbs y.natAbs k out ca) ∧ Hid (Slot2 wr w.heap.size (.bool b1) (.slice A1 n1 c1)) ∧ Hid (Slot2 wr (w.heap.size + 1) (.bool b2) (.slice A2 n2 c2)) ∧ Below w.heap.size w wr ∧ w.heap.size + 2 ≤ wr.heap.size) (fun _ _ i _ => m + 1 - (intOf i).toNat)
    case atStart =>
      exact ⟨0, [], 0, by omega, rfl, rfl, World.ownsRow_nil _ _ _ _, Lib.hid (PlusAt.start _ _), Lib.hid ((Slot2.new _ _ _ _).below ((Below.refl _ _).alloc (Nat.le_refl _) _) (by simp)), Lib.hid (by have := Slot2.new (w.alloc (.cells #[.bool b1, .slice A1 n1 c1] 72)) (.bool b2) (.slice A2 n2 c2) 72; rw [World.size_alloc] at this; exact this), ((Below.refl _ _).alloc (Nat.le_refl _) _).alloc (by simp) _, by simp⟩
    case round =>
      obtain ⟨k, out, ca, hk, rfl, rfl, hown, hpl, hs1, hs2, hbk, hzk⟩ := hrel
      obtain ⟨q0, q1, z0, z1⟩ := hs1.out
      obtain ⟨r0, r1, y0, y1⟩ := hs2.out
      by_cases hlt : k < m + 1
      · try have t0 : decide ((k : Int) < (n1 : Int) + 1) = true := decide_eq_true (by omega)
        try have t0' : decide ((k : Int) < (n2 : Int) + 1) = true := decide_eq_true (by omega)
        have e1 := dig_le x.natAbs k
        have e2 := dig_le y.natAbs k
        have hca := hpl.out.2.2.1
        go_wp2_with fail
        go_region_held3 (fun w' => w'.cell? ⟨w.heap.size, 0, none⟩ = some (.bool b1) ∧ w'.cell? ⟨w.heap.size, 1, none⟩ = some (.slice A1 n1 c1) ∧ w'.cell? ⟨w.heap.size + 1, 0, none⟩ = some (.bool b2) ∧ w'.cell? ⟨w.heap.size + 1, 1, none⟩ = some (.slice A2 n2 c2))
          (first | go_keep | ((try dsimp only); (repeat' apply And.intro) <;> (first | assumption | (rw [hby.cell (by simp; omega)]; assumption) | go_keep)))
          (first
            | (go_at_call 88; refine (D1.out k _ hbk.drew).mono ?_; clear D1; rintro e wx ⟨rfl, hbx⟩; have hby : Below wr.heap.size wr wx := (Below.refl _ wr).drew.trans (hbx.mono (by simp)))
            | (go_at_call 88; refine (D2.out k _ (hbk.trans (hby.mono (by omega)))).mono ?_; clear D2; rintro e wy ⟨rfl, hbx⟩; have hby : Below wr.heap.size wr wy := hby.trans (hbx.mono hby.size)))
        obtain ⟨X, hXe⟩ : ∃ X, X = dig x.natAbs k + dig y.natAbs k + ca := ⟨_, rfl⟩
        have hX : IntKind.i64.wrap (IntKind.i64.wrap ((dig x.natAbs k : Int) + (dig y.natAbs k : Int)) + (ca : Int)) = (X : Int) := by
          have a1 : IntKind.i64.wrap ((dig x.natAbs k : Int) + (dig y.natAbs k : Int)) = (dig x.natAbs k : Int) + (dig y.natAbs k : Int) := wrapI _ (by omega)
          rw [a1]; exact (wrapI _ (by omega)).trans (by omega)
        rw [hX]
        have hX9 : X ≤ 19 := by omega
        have HPL := Lib.hid (hpl.out.step hXe)
        clear hX hXe e1 e2 hca
        have hbk4 : ∀ j, u5.ownBlock = some j → w.heap.size + 2 ≤ j := fun j hj => (hown.lt j hj).1
        have hown2 := own_below hown hby (Nat.le_refl _)
        have hzy : wr.heap.size ≤ wy.heap.size := hby.size
        have HS1 := Lib.hid (hs1.out.below hby (by omega))
        have HS2 := Lib.hid (hs2.out.below hby (by omega))
        clear q0 q1 z0 z1 r0 r1 y0 y1
        go_wp2_with (at_builtin; refine wpList_append_lies _ rfl (.tmp 30) (.tmp 33) _ rfl (w.heap.size + 2) 3 i0 _ 1 8 Tryd.underlying40 hi0 hz0 hz1 hz2 rfl (by decide) _ k (cellsI out) rfl (hown2.alloc _) ⟨wy.heap.size, 0, none⟩ 1 1 [.int .i64 _] rfl rfl (World.news_of_block (heap_alloc_new _ _)) (by simp [Value.oneCell']) (by decide) (by unfold maxLen; omega) (by omega) (by simp; omega) _ rfl ?_; intro g4 cap4 w4 hown4 hgr4 hat4 hlt4)
        go_roundw
        case rel =>
          refine ⟨k + 1, out ++ [((X % 10 : Nat) : Int)], X / 10, by omega, by go_num, by go_num, by simpa [cellsI] using hown4, HPL, Lib.hid ?_, Lib.hid ?_, ?_, by have := hgr4.size; simp at this; omega⟩
          · exact HS1.out.below (((Below.refl (w.heap.size + 2) wy).alloc (by omega) _).grown hgr4 (by simp; omega) (fun j hj => by have := hbk4 j hj; omega)) (by omega)
          · exact HS2.out.below (((Below.refl (w.heap.size + 2) wy).alloc (by omega) _).grown hgr4 (by simp; omega) (fun j hj => by have := hbk4 j hj; omega)) (by omega)
          · exact ((hbk.trans (hby.mono (by omega))).alloc (by omega) _).grown hgr4 (by simp; omega) (fun j hj => by have := hbk4 j hj; omega)
        case measure => simp only [intOf]; omega
      · try have t0 : decide ((k : Int) < (n1 : Int) + 1) = false := decide_eq_false (by omega)
        try have t0' : decide ((k : Int) < (n2 : Int) + 1) = false := decide_eq_false (by omega)
        obtain ⟨A', c', rfl⟩ := own_shape hown
        obtain rfl : k = m + 1 := by omega
        go_wp2_with fail
        go_ret
        exact ⟨A', m + 1, c', out, rfl, own_mono hown (by omega), hpl.out.2.1, hpl.out.done (by rw [hlen1.out]; omega) (by rw [hlen2.out]; omega), by omega, hbk⟩

set_option maxHeartbeats 1600000 in
theorem minus_any (B1 B2 : Nat) (A1 A2 : Option Addr) (n1 c1 n2 c2 : Nat) (b1 b2 : Bool) (x y : Int) (w : World) (h1 : NumAt w B1 A1 n1 c1 x) (h2 : NumAt w B2 A2 n2 c2 y) (hB1 : B1 ≤ w.heap.size) (hB2 : B2 ≤ w.heap.size) (hl1 : n1 ≤ 1000) (hyx : y.natAbs ≤ x.natAbs) :
    Calls Tryd.prog 69 #[.agg #[.bool b1, .slice A1 n1 c1], .agg #[.bool b2, .slice A2 n2 c2]] w (DigsRes w (x.natAbs - y.natAbs)) := by
  obtain ⟨i0, hi0, hz0, hz1, hz2⟩ := info_parts size_int'
  have hlen1 := Lib.hid h1.len
  have hlen2 := Lib.hid h2.len
  have HYX := Lib.hid hyx; clear hyx
  have D1 : Hid (∀ (i : Nat) (W : World), Below w.heap.size w W → Calls Tryd.prog 88 #[.agg #[.bool b1, .slice A1 n1 c1], .int .i64 i] W fun e w' => e = .returned (.int .i64 (dig x.natAbs i : Nat)) ∧ Below W.heap.size W w') := Lib.hid fun i W hW => digit_any B1 b1 A1 n1 c1 x i W (h1.below hW hB1) (Nat.le_trans hB1 hW.size)
  have D2 : Hid (∀ (i : Nat) (W : World), Below w.heap.size w W → Calls Tryd.prog 88 #[.agg #[.bool b2, .slice A2 n2 c2], .int .i64 i] W fun e w' => e = .returned (.int .i64 (dig y.natAbs i : Nat)) ∧ Below W.heap.size W w') := Lib.hid fun i W hW => digit_any B2 b2 A2 n2 c2 y i W (h2.below hW hB2) (Nat.le_trans hB2 hW.size)
  clear h1 h2
  go_enter Tryd.func69, Tryd.ntmps69
  go_wp2_with fail
  go_loopw [5, 6, 7] (fun u cr i wr => ∃ (k : Nat) (out : List Int) (ca : Nat), k ≤ n1 ∧ i = .int .i64 k ∧ cr = .int .i64 ca ∧ wr.ownsRow (w.heap.size + 2) 3 1 u k (cellsI out) ∧ Hid (MinusAt x.natAbs y.natAbs k out ca) ∧ Hid (Slot2 wr w.heap.size (.bool b1) (.slice A1 n1 c1)) ∧ Hid (Slot2 wr (w.heap.size + 1) (.bool b2) (.slice A2 n2 c2)) ∧ Below w.heap.size w wr ∧ w.heap.size + 2 ≤ wr.heap.size) (fun _ _ i _ => n1 - (intOf i).toNat)
  case atStart =>
    exact ⟨0, [], 0, by omega, rfl, rfl, World.ownsRow_nil _ _ _ _, Lib.hid (MinusAt.start _ _), Lib.hid ((Slot2.new _ _ _ _).below ((Below.refl _ _).alloc (Nat.le_refl _) _) (by simp)), Lib.hid (by have := Slot2.new (w.alloc (.cells #[.bool b1, .slice A1 n1 c1] 72)) (.bool b2) (.slice A2 n2 c2) 72; rw [World.size_alloc] at this; exact this), ((Below.refl _ _).alloc (Nat.le_refl _) _).alloc (by simp) _, by simp⟩
  case round =>
    obtain ⟨k, out, ca, hk, rfl, rfl, hown, hpl, hs1, hs2, hbk, hzk⟩ := hrel
    obtain ⟨q0, q1, z0, z1⟩ := hs1.out
    obtain ⟨r0, r1, y0, y1⟩ := hs2.out
    by_cases hlt : k < n1
    · have t0 : decide ((k : Int) < (n1 : Int)) = true := decide_eq_true (by omega)
      have e1 := dig_le x.natAbs k
      have e2 := dig_le y.natAbs k
      have hca := hpl.out.2.2.1
      go_wp2_with fail
      go_region_held3 (fun w' => w'.cell? ⟨w.heap.size, 0, none⟩ = some (.bool b1) ∧ w'.cell? ⟨w.heap.size, 1, none⟩ = some (.slice A1 n1 c1) ∧ w'.cell? ⟨w.heap.size + 1, 0, none⟩ = some (.bool b2) ∧ w'.cell? ⟨w.heap.size + 1, 1, none⟩ = some (.slice A2 n2 c2))
        (first | go_keep | ((try dsimp only); (repeat' apply And.intro) <;> (first | assumption | (rw [hby.cell (by simp; omega)]; assumption) | go_keep)))
        (first
          | (go_at_call 88; refine (D1.out k _ hbk.drew).mono ?_; clear D1; rintro e wx ⟨rfl, hbx⟩; have hby : Below wr.heap.size wr wx := (Below.refl _ wr).drew.trans (hbx.mono (by simp)))
          | (go_at_call 88; refine (D2.out k _ (hbk.trans (hby.mono (by omega)))).mono ?_; clear D2; rintro e wy ⟨rfl, hbx⟩; have hby : Below wr.heap.size wr wy := hby.trans (hbx.mono hby.size)))
      obtain ⟨X, hXe⟩ : ∃ X : Int, X = (dig x.natAbs k : Int) - (dig y.natAbs k : Int) - (ca : Int) := ⟨_, rfl⟩
      have hX : IntKind.i64.wrap (IntKind.i64.wrap ((dig x.natAbs k : Int) - (dig y.natAbs k : Int)) - (ca : Int)) = X := by
        have a1 : IntKind.i64.wrap ((dig x.natAbs k : Int) - (dig y.natAbs k : Int)) = (dig x.natAbs k : Int) - (dig y.natAbs k : Int) := wrapI _ (by omega)
        rw [a1]; exact (wrapI _ (by omega)).trans (by omega)
      rw [hX]
      have hX9 : -10 ≤ X ∧ X ≤ 9 := by omega
      obtain ⟨hX8, hX9⟩ := hX9
      have HPL : Hid (∀ q : Nat, q ≤ 1 → 0 ≤ X + 10 * q → X + 10 * q ≤ 9 → MinusAt x.natAbs y.natAbs (k + 1) (out ++ [X + 10 * q]) q) := Lib.hid fun q hq h0 h9 => hpl.out.step (X + 10 * q) q (by omega) ⟨h0, h9⟩ hq
      clear hX hXe e1 e2 hca
      have hbk4 : ∀ j, u5.ownBlock = some j → w.heap.size + 2 ≤ j := fun j hj => (hown.lt j hj).1
      have hown2 := own_below hown hby (Nat.le_refl _)
      have hzy : wr.heap.size ≤ wy.heap.size := hby.size
      have HS1 := Lib.hid (hs1.out.below hby (by omega))
      have HS2 := Lib.hid (hs2.out.below hby (by omega))
      clear q0 q1 z0 z1 r0 r1 y0 y1
      by_cases hneg : X < 0
      · have t1 : decide (X < 0) = true := decide_eq_true hneg
        have P := Lib.hid (HPL.out 1 (by omega) (by omega) (by omega))
        go_wp2_with (at_builtin; refine wpList_append_lies _ rfl (.tmp 29) (.tmp 31) _ rfl (w.heap.size + 2) 3 i0 _ 1 8 Tryd.underlying40 hi0 hz0 hz1 hz2 rfl (by decide) _ k (cellsI out) rfl (hown2.alloc _) ⟨wy.heap.size, 0, none⟩ 1 1 [.int .i64 (X + 10)] rfl rfl (World.news_of_block (heap_alloc_new _ _)) (by simp [Value.oneCell']) (by decide) (by unfold maxLen; omega) (by omega) (by simp; omega) _ rfl ?_; intro g4 cap4 w4 hown4 hgr4 hat4 hlt4)
        go_roundw
        case rel =>
          refine ⟨k + 1, out ++ [X + 10], 1, by omega, by go_num, rfl, by simpa [cellsI] using hown4, P, Lib.hid ?_, Lib.hid ?_, ?_, by have := hgr4.size; simp at this; omega⟩
          · exact HS1.out.below (((Below.refl (w.heap.size + 2) wy).alloc (by omega) _).grown hgr4 (by simp; omega) (fun j hj => by have := hbk4 j hj; omega)) (by omega)
          · exact HS2.out.below (((Below.refl (w.heap.size + 2) wy).alloc (by omega) _).grown hgr4 (by simp; omega) (fun j hj => by have := hbk4 j hj; omega)) (by omega)
          · exact ((hbk.trans (hby.mono (by omega))).alloc (by omega) _).grown hgr4 (by simp; omega) (fun j hj => by have := hbk4 j hj; omega)
        case measure => simp only [intOf]; omega
      · have t1 : decide (X < 0) = false := decide_eq_false hneg
        have P := HPL.out 0 (by omega) (by omega) (by omega)
        rw [show X + 10 * ((0 : Nat) : Int) = X by omega] at P
        have P := Lib.hid P
        go_wp2_with (at_builtin; refine wpList_append_lies _ rfl (.tmp 29) (.tmp 31) _ rfl (w.heap.size + 2) 3 i0 _ 1 8 Tryd.underlying40 hi0 hz0 hz1 hz2 rfl (by decide) _ k (cellsI out) rfl (hown2.alloc _) ⟨wy.heap.size, 0, none⟩ 1 1 [.int .i64 X] rfl rfl (World.news_of_block (heap_alloc_new _ _)) (by simp [Value.oneCell']) (by decide) (by unfold maxLen; omega) (by omega) (by simp; omega) _ rfl ?_; intro g4 cap4 w4 hown4 hgr4 hat4 hlt4)
        go_roundw
        case rel =>
          refine ⟨k + 1, out ++ [X], 0, by omega, by go_num, rfl, by simpa [cellsI] using hown4, P, Lib.hid ?_, Lib.hid ?_, ?_, by have := hgr4.size; simp at this; omega⟩
          · exact HS1.out.below (((Below.refl (w.heap.size + 2) wy).alloc (by omega) _).grown hgr4 (by simp; omega) (fun j hj => by have := hbk4 j hj; omega)) (by omega)
          · exact HS2.out.below (((Below.refl (w.heap.size + 2) wy).alloc (by omega) _).grown hgr4 (by simp; omega) (fun j hj => by have := hbk4 j hj; omega)) (by omega)
          · exact ((hbk.trans (hby.mono (by omega))).alloc (by omega) _).grown hgr4 (by simp; omega) (fun j hj => by have := hbk4 j hj; omega)
        case measure => simp only [intOf]; omega
    · have t0 : decide ((k : Int) < (n1 : Int)) = false := decide_eq_false (by omega)
      obtain ⟨A', c', rfl⟩ := own_shape hown
      obtain rfl : k = n1 := by omega
      go_wp2_with fail
      go_ret
      exact ⟨A', k, c', out, rfl, own_mono hown (by omega), hpl.out.2.1, hpl.out.done (by rw [hlen1.out]; omega) HYX.out, by omega, hbk⟩

/-! ### size -/
def cmpN (a b : Nat) : Int := if a < b then -1 else if b < a then 1 else 0
set_option maxHeartbeats 1600000 in
theorem sizeN_any (B1 B2 : Nat) (A1 A2 : Option Addr) (n1 c1 n2 c2 : Nat) (b1 b2 : Bool) (x y : Int) (w : World) (h1 : NumAt w B1 A1 n1 c1 x) (h2 : NumAt w B2 A2 n2 c2 y) (hB1 : B1 ≤ w.heap.size) (hB2 : B2 ≤ w.heap.size) (hl1 : n1 ≤ 1000) (hl2 : n2 ≤ 1000) :
    Calls Tryd.prog 68 #[.agg #[.bool b1, .slice A1 n1 c1], .agg #[.bool b2, .slice A2 n2 c2]] w fun e w' => e = .returned (.int .i64 (cmpN x.natAbs y.natAbs)) ∧ Below w.heap.size w w' := by
  have hlen1 := Lib.hid h1.len
  have hlen2 := Lib.hid h2.len
  have D1 : Hid (∀ (i : Nat) (W : World), Below w.heap.size w W → Calls Tryd.prog 88 #[.agg #[.bool b1, .slice A1 n1 c1], .int .i64 i] W fun e w' => e = .returned (.int .i64 (dig x.natAbs i : Nat)) ∧ Below W.heap.size W w') := Lib.hid fun i W hW => digit_any B1 b1 A1 n1 c1 x i W (h1.below hW hB1) (Nat.le_trans hB1 hW.size)
  have D2 : Hid (∀ (i : Nat) (W : World), Below w.heap.size w W → Calls Tryd.prog 88 #[.agg #[.bool b2, .slice A2 n2 c2], .int .i64 i] W fun e w' => e = .returned (.int .i64 (dig y.natAbs i : Nat)) ∧ Below W.heap.size W w') := Lib.hid fun i W hW => digit_any B2 b2 A2 n2 c2 y i W (h2.below hW hB2) (Nat.le_trans hB2 hW.size)
  clear h1 h2
  obtain ⟨m, hm⟩ : ∃ m, n1 < n2 ∧ m = n2 ∨ n2 ≤ n1 ∧ m = n1 := by rcases Nat.lt_or_ge n1 n2 with h | h; exact ⟨_, .inl ⟨h, rfl⟩⟩; exact ⟨_, .inr ⟨h, rfl⟩⟩
  rcases hm with ⟨hmm, hm⟩ | ⟨hmm, hm⟩
  all_goals
    go_enter Tryd.func68, Tryd.ntmps68
    go_wp2_with fail
    go_loopw [5] (fun i wr => ∃ (k : Nat), k ≤ m ∧ i = .int .i64 ((k : Int) - 1) ∧ Hid (x.natAbs / 10 ^ k = y.natAbs / 10 ^ k) ∧ Hid (Slot2 wr w.heap.size (.bool b1) (.slice A1 n1 c1)) ∧ Hid (Slot2 wr (w.heap.size + 1) (.bool b2) (.slice A2 n2 c2)) ∧ Below w.heap.size w wr ∧ w.heap.size + 2 ≤ wr.heap.size) (fun i _ => (intOf i + 1).toNat)
    case atStart =>
      exact ⟨m, by omega, by rw [hm], Lib.hid (by rw [div_pow_len (by rw [hlen1.out]; omega), div_pow_len (by rw [hlen2.out]; omega)]), Lib.hid ((Slot2.new _ _ _ _).below ((Below.refl _ _).alloc (Nat.le_refl _) _) (by simp)), Lib.hid (by have := Slot2.new (w.alloc (.cells #[.bool b1, .slice A1 n1 c1] 72)) (.bool b2) (.slice A2 n2 c2) 72; rw [World.size_alloc] at this; exact this), ((Below.refl _ _).alloc (Nat.le_refl _) _).alloc (by simp) _, by simp⟩
    case round =>
      obtain ⟨k, hk, rfl, heq, hs1, hs2, hbk, hzk⟩ := hrel
      rcases Nat.eq_zero_or_pos k with rfl | hk0
      · have t0 : decide ((0 : Int) ≤ ((0 : Nat) : Int) - 1) = false := by decide
        go_wp2_with fail
        go_ret
        have e := heq.out
        simp only [Nat.pow_zero, Nat.div_one] at e
        exact ⟨by rw [cmpN, e]; simp, hbk⟩
      · obtain ⟨k, rfl⟩ : ∃ j, k = j + 1 := ⟨k - 1, by omega⟩
        have ek : ((k + 1 : Nat) : Int) - 1 = (k : Int) := by omega
        rw [ek]
        have t0 : decide ((0 : Int) ≤ (k : Int)) = true := decide_eq_true (by omega)
        obtain ⟨q0, q1, z0, z1⟩ := hs1.out
        obtain ⟨r0, r1, y0, y1⟩ := hs2.out
        have e1 := dig_le x.natAbs k
        have e2 := dig_le y.natAbs k
        have D1' := D1
        have D2' := D2
        go_wp2_with fail
        go_region_held3 (fun w' => w'.cell? ⟨w.heap.size, 0, none⟩ = some (.bool b1) ∧ w'.cell? ⟨w.heap.size, 1, none⟩ = some (.slice A1 n1 c1) ∧ w'.cell? ⟨w.heap.size + 1, 0, none⟩ = some (.bool b2) ∧ w'.cell? ⟨w.heap.size + 1, 1, none⟩ = some (.slice A2 n2 c2))
          (first | go_keep | ((try dsimp only); (repeat' apply And.intro) <;> (first | assumption | (rw [hby.cell (by simp; omega)]; assumption) | go_keep)))
          (first
            | (go_at_call 88; refine (D1.out k _ hbk.drew).mono ?_; clear D1; rintro e wx ⟨rfl, hbx⟩; have hby : Below wr.heap.size wr wx := (Below.refl _ wr).drew.trans (hbx.mono (by simp)))
            | (go_at_call 88; refine (D2.out k _ (hbk.trans (hby.mono (by omega)))).mono ?_; clear D2; rintro e wy ⟨rfl, hbx⟩; have hby : Below wr.heap.size wr wy := hby.trans (hbx.mono hby.size)))
        by_cases h1 : dig x.natAbs k < dig y.natAbs k
        · have t1 : decide ((dig x.natAbs k : Int) < (dig y.natAbs k : Int)) = true := decide_eq_true (by omega)
          have t1' : decide (dig x.natAbs k < dig y.natAbs k) = true := decide_eq_true h1
          go_wp2_with fail
          go_ret
          have := lt_of_dig heq.out h1
          exact ⟨by rw [cmpN, if_pos this]; rfl, hbk.trans (hby.mono (by omega))⟩
        · have t1 : decide ((dig x.natAbs k : Int) < (dig y.natAbs k : Int)) = false := decide_eq_false (by omega)
          have t1' : decide (dig x.natAbs k < dig y.natAbs k) = false := decide_eq_false h1
          have hbk2 := hbk.trans (hby.mono (by omega))
          have hzk2 : w.heap.size + 2 ≤ wy.heap.size := by have := hby.size; omega
          obtain ⟨q0, q1, z0, z1⟩ := hs1.out.below hby (by omega)
          obtain ⟨r0, r1, y0, y1⟩ := hs2.out.below hby (by omega)
          clear hby hbk
          have HS1 : Hid (Slot2 wy w.heap.size (.bool b1) (.slice A1 n1 c1)) := Lib.hid ⟨q0, q1, z0, z1⟩
          have HS2 : Hid (Slot2 wy (w.heap.size + 1) (.bool b2) (.slice A2 n2 c2)) := Lib.hid ⟨r0, r1, y0, y1⟩
          go_wp2_with fail
          go_region_held3 (fun w' => w'.cell? ⟨w.heap.size, 0, none⟩ = some (.bool b1) ∧ w'.cell? ⟨w.heap.size, 1, none⟩ = some (.slice A1 n1 c1) ∧ w'.cell? ⟨w.heap.size + 1, 0, none⟩ = some (.bool b2) ∧ w'.cell? ⟨w.heap.size + 1, 1, none⟩ = some (.slice A2 n2 c2))
            (first | go_keep | ((try dsimp only); (repeat' apply And.intro) <;> (first | assumption | (rw [hbz.cell (by simp; omega)]; assumption) | go_keep)))
            (first
              | (go_at_call 88; refine (D1'.out k _ hbk2.drew).mono ?_; clear D1'; rintro e wp ⟨rfl, hbx⟩; have hbz : Below wy.heap.size wy wp := (Below.refl _ wy).drew.trans (hbx.mono (by simp)))
              | (go_at_call 88; refine (D2'.out k _ (hbk2.trans (hbz.mono (by omega)))).mono ?_; clear D2'; rintro e wq ⟨rfl, hbx⟩; have hbz : Below wy.heap.size wy wq := hbz.trans (hbx.mono hbz.size)))
          have hbk3 := hbk2.trans (hbz.mono (by omega))
          by_cases h2 : dig y.natAbs k < dig x.natAbs k
          · have t2 : decide ((dig y.natAbs k : Int) < (dig x.natAbs k : Int)) = true := decide_eq_true (by omega)
            have t2' : decide (dig y.natAbs k < dig x.natAbs k) = true := decide_eq_true h2
            go_wp2_with fail
            go_ret
            have := lt_of_dig heq.out.symm h2
            exact ⟨by rw [cmpN, if_neg (by omega), if_pos this]; rfl, hbk3⟩
          · have t2 : decide ((dig y.natAbs k : Int) < (dig x.natAbs k : Int)) = false := decide_eq_false (by omega)
            have t2' : decide (dig y.natAbs k < dig x.natAbs k) = false := decide_eq_false h2
            have hz2 := hbz.size
            go_wp2_with fail
            go_roundw
            case rel =>
              refine ⟨k, by omega, by go_num, Lib.hid ?_, Lib.hid (HS1.out.below hbz (by omega)), Lib.hid (HS2.out.below hbz (by omega)), hbk3, by omega⟩
              have e5 := div_pow_step x.natAbs k
              have e6 := div_pow_step y.natAbs k
              have e7 := heq.out
              omega
            case measure => simp only [intOf]; omega
end Go.Proofs.YtkdffcoofijhkaaDoor
