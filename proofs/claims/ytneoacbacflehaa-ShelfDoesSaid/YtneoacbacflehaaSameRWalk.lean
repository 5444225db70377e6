/-
  THE WALK OF limewashref17.Same: two rows of rectangles.
-/
import Derived.Test.YtneoacbacflehaaGeo
import Derived.Test.YtneoacbacflehaaLex
import Derived.Test.YtneoacbacflehaaProg
set_option linter.unusedVariables false
set_option linter.unusedSimpArgs false
namespace Go.Proofs.Ytneoacbacflehaa
open Go.RowKit

theorem sameR_any (B B' : Nat) (A A' : Option Addr) (n c m d : Nat) (xs ys : List Rc) (w : World) (hx : Rects w B A n xs) (hy : Rects w B' A' m ys) :
    Calls Try.prog 17 #[.slice A n c, .slice A' m d] w fun e w' => e = .returned (.bool (decide (xs = ys))) ∧ ∃ q, w' = w.drewN q := by
  have hn := hx.len
  have hm := hy.len
  have hl := Lib.hid hx.length
  have hl' := Lib.hid hy.length
  by_cases hnm : n = m
  · subst hnm
    have db : (n != n) = false := by simp
    go_enter Try.func17, Try.ntmps17
    go_wp2_with fail
    go_loopw [5] (fun i wr => ∃ k : Nat, k ≤ n ∧ i = .int .i64 k ∧ Hid (xs.take k = ys.take k) ∧ ∃ q, wr = w.drewN q) (fun i _ => n - (intOf i).toNat)
    case atStart => exact ⟨0, Nat.zero_le _, rfl, rfl, 0, rfl⟩
    case round =>
      obtain ⟨k, hk, rfl, htk, q, rfl⟩ := hrel
      by_cases hlt : k < n
      · obtain ⟨ad, x, rfl, hb, hkx, hmx, hbx, c0, c1, c2, c3⟩ := hx.get hlt
        obtain ⟨ad', y, rfl, hb', hky, hmy, hby, e0, e1, e2, e3⟩ := hy.get hlt
        have HX := Lib.hid hkx; clear hkx hmx hbx
        have HY := Lib.hid hky; clear hky hmy hby
        have hk0 : (0 : Int) ≤ (k : Int) := by omega
        have hkn : (k : Int) < (n : Int) := by omega
        obtain ⟨x1, x2, x3, x4⟩ := x
        obtain ⟨y1, y2, y3, y4⟩ := y
        simp only at c0 c1 c2 c3 e0 e1 e2 e3
        by_cases hxy : x1 = y1 ∧ x2 = y2 ∧ x3 = y3 ∧ x4 = y4
        · obtain ⟨rfl, rfl, rfl, rfl⟩ := hxy
          go_wp2_with fail
          go_quiet (fail)
          go_wp2_with fail
          go_roundw
          case rel => exact ⟨k + 1, by omega, by go_num, Lib.hid (by rw [take_snoc' _ _ _ HX.out, take_snoc' _ _ _ HY.out, htk.out]), _, rfl⟩
          case measure => simp [intOf]; omega
        · have hne : Hid (xs ≠ ys) := Lib.hid fun e => hxy (by
            have h1 := HX.out
            rw [e, HY.out] at h1
            injection Option.some.inj h1 with a b c d
            exact ⟨a.symm, b.symm, c.symm, d.symm⟩)
          have H1 := Lib.hid hxy; clear hxy
          cases f1 : (x1 == y1) <;> cases f2 : (x2 == y2) <;> cases f3 : (x3 == y3) <;> cases f4 : (x4 == y4)
          case true.true.true.true => exact absurd ⟨eq_of_beq f1, eq_of_beq f2, eq_of_beq f3, eq_of_beq f4⟩ H1.out
          all_goals
            go_wp2_with fail
            go_quiet (fail)
            go_wp2_with fail
            go_ret
            exact ⟨ret_bool (by simp [hne.out]), _, World.drewN_drewN ..⟩
      · go_wp2_with fail
        go_ret
        refine ⟨ret_bool ?_, q, rfl⟩
        have e := htk.out
        rw [List.take_of_length_le (by rw [hl.out]; omega), List.take_of_length_le (by rw [hl'.out]; omega)] at e
        simp [e]
  · have db : ((n : Int) != (m : Int)) = true := by simp; omega
    have hne : Hid (xs ≠ ys) := Lib.hid fun e => hnm (by rw [← hl.out, ← hl'.out, e])
    clear hnm
    go_enter Try.func17, Try.ntmps17
    go_wp2_with fail
    go_ret
    exact ⟨ret_bool (by simp [hne.out]), 0, rfl⟩
end Go.Proofs.Ytneoacbacflehaa
