/-
  THE WALK OF limewashref01.Own.
-/
import Derived.Test.YtmkmmkpigpbkiaaNumWalkA
set_option linter.unusedVariables false
set_option linter.unusedSimpArgs false
namespace Go.Proofs.Ytmkmmkpigpbkiaa
open Go.RowKit

theorem own_ints_pos (A : Option Addr) (n c : Nat) (xs : List Int) (w : World) (h : Ints w w.heap.size A n xs) (hn : n ≤ 1000) (h0 : 0 < n) :
    Calls Try.prog 8 #[.slice A n c] w (LoneRes w 3 1 n (cellsI xs)) := by
  obtain ⟨i0, hi0, hz0, hz1, hz2⟩ := info_parts size_int'
  have hl := h.rd.1
  obtain ⟨ad, rfl, hb, hc⟩ := h.rd.2 (by omega)
  have hone := cellsI_one xs
  go_enter Try.func8, Try.ntmps8
  go_wp2_with (at_builtin; refine wpList_append_lies _ rfl (.tmp 4) (.tmp 5) _ rfl w.heap.size 3 i0 _ 1 8 Try.underlying22 hi0 hz0 hz1 hz2 rfl (by decide) _ 0 [] rfl (World.ownsRow_nil _ _ _ _) ad n c (cellsI xs) rfl hl hc hone h0 (by unfold maxLen; omega) (by omega) (Nat.le_refl _) _ rfl ?_; intro g4 cap4 w4 hown4 hgr4 hat4 hlt4)
  go_ret
  simp only [Nat.zero_add, List.nil_append] at hown4
  exact ⟨_, _, by simp, hown4, (Below.refl _ _).grown hgr4 (Nat.le_refl _) (fun k hk => by cases hk)⟩
theorem own_ints_nil (A : Option Addr) (c : Nat) (w : World) :
    Calls Try.prog 8 #[.slice A 0 c] w (LoneRes w 3 1 0 []) := by
  cases A with
  | none =>
    go_enter Try.func8, Try.ntmps8
    go_wp2_with fail
    go_ret
    exact ⟨none, 0, rfl, World.ownsRow_nil _ _ _ _, Below.refl _ _⟩
  | some ad =>
    go_enter Try.func8, Try.ntmps8
    go_wp2_with fail
    go_ret
    exact ⟨none, 0, rfl, World.ownsRow_nil _ _ _ _, Below.refl _ _⟩
theorem own_ints_any (A : Option Addr) (n c : Nat) (xs : List Int) (w : World) (h : Ints w w.heap.size A n xs) (hn : n ≤ 1000) :
    Calls Try.prog 8 #[.slice A n c] w (LoneRes w 3 1 n (cellsI xs)) := by
  rcases Nat.eq_zero_or_pos n with rfl | h0
  · obtain rfl := List.length_eq_zero_iff.1 h.length
    exact own_ints_nil A c w
  · exact own_ints_pos A n c xs w h hn h0
end Go.Proofs.Ytmkmmkpigpbkiaa
