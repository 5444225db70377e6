/-
  THE WALK OF limewashref17.Own.
-/
import Derived.Test.YtneoacbacflehaaShelfWalkC
import Derived.Test.YtneoacbacflehaaOwnWalk
set_option linter.unusedVariables false
set_option linter.unusedSimpArgs false
namespace Go.Proofs.Ytneoacbacflehaa
open Go.RowKit

theorem own_rects_pos (A : Option Addr) (n c : Nat) (xs : List Rc) (w : World) (h : Rects w w.heap.size A n xs) (hn : n ≤ 1000) (h0 : 0 < n) :
    Calls Try.prog 9 #[.slice A n c] w (LoneRes w 24 4 n (cellsR xs)) := by
  obtain ⟨i0, hi0, hz0, hz1, hz2⟩ := info_parts size_rect
  have hl := h.rd.1
  obtain ⟨ad, rfl, hb, hc⟩ := h.rd.2 (by omega)
  have hone := cellsR_one xs
  go_enter Try.func9, Try.ntmps9
  go_wp2_with (at_builtin; refine wpList_append_lies _ rfl (.tmp 4) (.tmp 5) _ rfl w.heap.size 24 i0 _ 4 32 Try.underlying26 hi0 hz0 hz1 hz2 rfl (by decide) _ 0 [] rfl (World.ownsRow_nil _ _ _ _) ad n c (cellsR xs) rfl hl hc hone h0 (by unfold maxLen; omega) (by omega) (Nat.le_refl _) _ rfl ?_; intro g4 cap4 w4 hown4 hgr4 hat4 hlt4)
  go_ret
  simp only [Nat.zero_add, List.nil_append] at hown4
  exact ⟨_, _, by simp, hown4, (Below.refl _ _).grown hgr4 (Nat.le_refl _) (fun k hk => by cases hk)⟩
theorem own_rects_nil (A : Option Addr) (c : Nat) (w : World) :
    Calls Try.prog 9 #[.slice A 0 c] w (LoneRes w 24 4 0 []) := by
  cases A with
  | none =>
    go_enter Try.func9, Try.ntmps9
    go_wp2_with fail
    go_ret
    exact ⟨none, 0, rfl, World.ownsRow_nil _ _ _ _, Below.refl _ _⟩
  | some ad =>
    go_enter Try.func9, Try.ntmps9
    go_wp2_with fail
    go_ret
    exact ⟨none, 0, rfl, World.ownsRow_nil _ _ _ _, Below.refl _ _⟩
theorem own_rects_any (A : Option Addr) (n c : Nat) (xs : List Rc) (w : World) (h : Rects w w.heap.size A n xs) (hn : n ≤ 1000) :
    Calls Try.prog 9 #[.slice A n c] w (LoneRes w 24 4 n (cellsR xs)) := by
  rcases Nat.eq_zero_or_pos n with rfl | h0
  · obtain rfl := List.length_eq_zero_iff.1 h.length
    exact own_rects_nil A c w
  · exact own_rects_pos A n c xs w h hn h0
end Go.Proofs.Ytneoacbacflehaa
