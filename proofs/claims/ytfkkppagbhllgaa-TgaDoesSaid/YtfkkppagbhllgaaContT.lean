/-
  THE WALKS OF slices.IndexFunc, ContainsFunc AND Clone, of ints (ContI, for a seat without the reference of numbers).
-/
import Derived.Test.YtfkkppagbhllgaaGeo
import Derived.Test.YtfkkppagbhllgaaProg
set_option linter.unusedVariables false
set_option linter.unusedSimpArgs false
namespace Go.Proofs.Ytfkkppagbhllgaa
open Go.RowKit

theorem size_int' : (Try.prog.info? 3).map (fun i => (i.zero, i.size, i.bytes)) = some (some (.int .i64 0), 1, 8) := by kernel_rfl
theorem any_true' {α : Type} {f : α → Bool} {x : α} {xs : List α} (hx : x ∈ xs) (h : f x = true) : xs.any f = true := List.any_eq_true.2 ⟨x, hx, h⟩
/-- what an index says: not below 0 just where there is one -/
def IdxRes' (b : Bool) (e : Ending) : Prop := ∃ r : Int, e = .returned (.int .i64 r) ∧ -1 ≤ r ∧ r ≤ 9223372036854775807 ∧ decide (0 ≤ r) = b
theorem IdxRes'.no {b : Bool} (h : b = false) : IdxRes' b (.returned (.int .i64 (-1))) := ⟨-1, rfl, by omega, by omega, by rw [h]; rfl⟩
theorem IdxRes'.yes {b : Bool} {k : Nat} (h : b = true) (hk : k ≤ 9223372036854775807) : IdxRes' b (.returned (.int .i64 k)) := ⟨k, rfl, by omega, by omega, by rw [h]; simp⟩

theorem idxL_any (B F : Nat) (f : Int → Bool) (hf : ∀ (x : Int) (W : World), Calls Try.prog F #[.int .i64 x] W fun e w' => e = .returned (.bool (f x)) ∧ W = w')
    (hF : ∀ (args : Array Value) (W : World), Sem.run Try.prog (callFunc F args) W = .ok (.enter F args) W) (A : Option Addr) (n c : Nat) (xs : List Int) (w : World) (h : Ints w B A n xs) :
    Calls Try.prog 70 #[.slice A n c, .func (.func F) #[] #[]] w fun e w' => IdxRes' (xs.any f) e ∧ w = w' := by
  have hn := h.len
  have HF := Lib.hid hf; clear hf
  go_enter Try.func70, Try.ntmps70
  go_wp2
  go_loop [8] (fun i => ∃ k : Nat, k ≤ n ∧ i = .int .i64 k ∧ Hid ((xs.take k).any f = false)) (fun i => n - (intOf i).toNat)
  case atStart => exact ⟨0, Nat.zero_le _, rfl, rfl⟩
  case round =>
    obtain ⟨k, hk, rfl, hany⟩ := hrel
    by_cases hlt : k < n
    · obtain ⟨ad, x, rfl, hb, hx, hm, hc, hlo, hhi⟩ := h.get hlt
      have HX := Lib.hid hx; clear hx
      go_wp2_with fail
      refine (HF.out x _).mono ?_
      rintro e w' ⟨rfl, rfl⟩
      cases hfx : f x with
      | true =>
        have HFX := Lib.hid hfx; clear hfx
        go_wp2_with fail
        go_ret
        exact ⟨.yes (any_true' hm HFX.out) (by omega), rfl⟩
      | false =>
        have HFX := Lib.hid hfx; clear hfx
        go_wp2_with fail
        go_round
        case rel => exact ⟨k + 1, by omega, by go_num, by
          refine Lib.hid ?_
          rw [take_snoc' _ _ _ HX.out, List.any_append, hany.out]
          simp [HFX.out]⟩
        case measure => simp [intOf]; omega
    · go_wp2_with fail
      go_ret
      refine ⟨.no ?_, rfl⟩
      have := hany.out
      rw [List.take_of_length_le (by rw [h.length]; omega)] at this
      exact this

theorem containsL_any (B F : Nat) (f : Int → Bool) (hf : ∀ (x : Int) (W : World), Calls Try.prog F #[.int .i64 x] W fun e w' => e = .returned (.bool (f x)) ∧ W = w')
    (hF : ∀ (args : Array Value) (W : World), Sem.run Try.prog (callFunc F args) W = .ok (.enter F args) W) (A : Option Addr) (n c : Nat) (xs : List Int) (w : World) (h : Ints w B A n xs) :
    Calls Try.prog 58 #[.slice A n c, .func (.func F) #[] #[]] w fun e w' => e = .returned (.bool (xs.any f)) ∧ w = w' := by
  have HF := Lib.hid hf; clear hf
  go_enter Try.func58, Try.ntmps58
  go_wp2_with fail
  refine (idxL_any B F f HF.out hF A n c xs _ h).mono ?_
  rintro e w' ⟨⟨r, rfl, h1, h2, hr⟩, rfl⟩
  have HR := Lib.hid hr; clear hr
  go_wp2_with fail
  go_ret
  exact ⟨ret_bool HR.out, rfl⟩

theorem clone_pos (A : Option Addr) (n c : Nat) (xs : List Int) (w : World) (h : Ints w w.heap.size A n xs) (hn : n ≤ 1000) (h0 : 0 < n) :
    Calls Try.prog 61 #[.slice A n c] w (LoneRes w 3 1 n (cellsI xs)) := by
  obtain ⟨i0, hi0, hz0, hz1, hz2⟩ := info_parts size_int'
  have hl := h.rd.1
  obtain ⟨ad, rfl, hb, hc⟩ := h.rd.2 (by omega)
  have hone := cellsI_one xs
  have hnil := fun (a : Option Addr) (n c : Nat) (W : World) => Lib.run_eql_slice_nil (P := Try.prog) W 25 3 a n c 0 0 Try.underlying25
  go_enter Try.func61, Try.ntmps61
  have hB : w.heap.size ≤ w.heap.size + 1 := by omega
  have hc' : ∀ j u, (cellsI xs)[j]? = some u → (w.alloc (.cells #[] 3)).cell? (ad.add j) = some u := fun j u hu => by rw [World.cell?_alloc_lt w _ _ (by rw [addr_block]; exact hb)]; exact hc j u hu
  have HC := Lib.hid hc'; clear hc hc'
  go_wp2_with (at_builtin; refine wpList_append_lies _ rfl (.tmp 5) (.tmp 6) _ rfl w.heap.size 3 i0 _ 1 8 Try.underlying25 hi0 hz0 hz1 hz2 rfl (by decide) _ 0 [] rfl (World.ownsRow_made w #[] 0 (Nat.le_refl _) (by unfold maxLen; omega) rfl) ad n c (cellsI xs) rfl hl HC.out hone h0 (by unfold maxLen; omega) (by omega) (by simp) _ rfl ?_; intro g4 cap4 w4 hown4 hgr4 hat4 hlt4)
  go_ret
  simp only [Nat.zero_add, List.nil_append] at hown4
  exact ⟨_, _, by simp, hown4, ((Below.refl _ _).alloc (Nat.le_refl _) _).grown hgr4 (by simp) (fun k hk => by cases hk; exact Nat.le_refl _)⟩
theorem clone_nil (c : Nat) (w : World) :
    Calls Try.prog 61 #[.slice none 0 c] w (LoneRes w 3 1 0 []) := by
  have hnil := fun (a : Option Addr) (n c : Nat) (W : World) => Lib.run_eql_slice_nil (P := Try.prog) W 25 3 a n c 0 0 Try.underlying25
  go_enter Try.func61, Try.ntmps61
  go_wp2_with fail
  go_ret
  exact ⟨none, 0, rfl, World.ownsRow_nil _ _ _ _, Below.refl _ _⟩
theorem clone_empty (ad : Addr) (c : Nat) (w : World) :
    Calls Try.prog 61 #[.slice (some ad) 0 c] w (LoneRes w 3 1 0 []) := by
  have hnil := fun (a : Option Addr) (n c : Nat) (W : World) => Lib.run_eql_slice_nil (P := Try.prog) W 25 3 a n c 0 0 Try.underlying25
  go_enter Try.func61, Try.ntmps61
  go_wp2_with fail
  go_ret
  exact ⟨_, 0, rfl, World.ownsRow_made w #[] 0 (Nat.le_refl _) (by unfold maxLen; omega) rfl, (Below.refl _ _).alloc (Nat.le_refl _) _⟩
theorem clone_any (A : Option Addr) (n c : Nat) (xs : List Int) (w : World) (h : Ints w w.heap.size A n xs) (hn : n ≤ 1000) :
    Calls Try.prog 61 #[.slice A n c] w (LoneRes w 3 1 n (cellsI xs)) := by
  rcases Nat.eq_zero_or_pos n with rfl | h0
  · obtain rfl := List.length_eq_zero_iff.1 h.length
    cases A with
    | none => exact clone_nil c w
    | some ad => exact clone_empty ad c w
  · exact clone_pos A n c xs w h hn h0
end Go.Proofs.Ytfkkppagbhllgaa
