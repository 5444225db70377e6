/-
  THE WALK OF limewashref05's Row.
-/
import Derived.Test.YtkdffcoofijhkaaDoorScanDoE
import Derived.Test.YtkdffcoofijhkaaDoorScanWalkF
set_option linter.unusedVariables false
set_option linter.unusedSimpArgs false
set_option maxRecDepth 8000
namespace Go.Proofs.YtkdffcoofijhkaaDoor
open Go.RowKit

set_option maxHeartbeats 1600000 in
theorem srowref_any (B : Nat) (A : Option Addr) (n c : Nat) (ls : List (List UInt8)) (w : World) (h : Strs w B A n ls) (hB : B ≤ w.heap.size) (hn : n ≤ 1000) (hl : ∀ l ∈ ls, l.length ≤ 100000) :
    Calls Tryd.prog 22 #[.slice A n c] w (ListRes w 3 1 (rowS ls).1.length (cellsI (rowS ls).1) (rowS ls).2) := by
  obtain ⟨i0, hi0, hz0, hz1, hz2⟩ := info_parts size_int'
  have hlen := Lib.hid h.length
  have H := Lib.hid h; clear h
  have HL := Lib.hid hl; clear hl
  obtain ⟨R, hR⟩ : ∃ R, R = rowS ls := ⟨_, rfl⟩
  rw [← hR]
  have HR := Lib.hid hR; clear hR
  have FIN : Hid (∀ (v : Value) w', v = .tuple #[.slice none 0 0, .int .i64 R.2] → R.1 = [] → Below w.heap.size w w' → ListRes w 3 1 R.1.length (cellsI R.1) R.2 (.returned v) w') := Lib.hid (fun v w' e e2 hb => by rw [e2]; exact ListRes.none_ e hb)
  have FIN2 : Hid (∀ A' c' w', R.2 = 0 → R.1.length = n → w'.ownsRow w.heap.size 3 1 (.slice A' n c') n (cellsI R.1) → Below w.heap.size w w' → ListRes w 3 1 R.1.length (cellsI R.1) R.2 (.returned (.tuple #[.slice A' n c', .int .i64 0])) w') := Lib.hid (fun A' c' w' e e2 h1 hb => by rw [e, e2]; exact ⟨A', c', rfl, h1, hb⟩)
  generalize hQ : ListRes w 3 1 R.1.length (cellsI R.1) R.2 = Qp at FIN FIN2 ⊢
  clear hQ
  go_enter Tryd.func22, Tryd.ntmps22
  go_wp2_with fail
  go_loopw [4, 5] (fun v i wr => ∃ (k : Nat) (out : List Int), k ≤ n ∧ i = .int .i64 k ∧ wr.ownsRow w.heap.size 3 1 v k (cellsI out) ∧ Hid (out = (ls.take k).map fun l => (parseS l).1) ∧ Hid (∀ l ∈ ls.take k, (parseS l).2 = 0) ∧ Hid (Below w.heap.size w wr)) (fun _ i _ => n - (intOf i).toNat)
  case atStart => exact ⟨0, [], by omega, rfl, World.ownsRow_nil _ _ _ _, Lib.hid rfl, Lib.hid (by simp), Lib.hid (Below.refl _ _)⟩
  case round =>
    obtain ⟨k, out, hk, rfl, hown, hout, hall, hB0⟩ := hrel
    by_cases hlt : k < n
    · have t0 : decide ((k : Int) < (n : Int)) = true := decide_eq_true (by omega)
      obtain ⟨ad, l, rfl, hb, hx, hm, hc⟩ := (H.out.below hB0.out hB).get hlt
      have HX := Lib.hid hx; clear hx
      have hlen2 := HL.out l hm
      obtain ⟨v, er, hp⟩ : ∃ v e, parseS l = (v, e) := ⟨_, _, rfl⟩
      have K := Lib.hid (fun W => sparseref_any l W hlen2)
      rw [hp] at K
      unfold NE2 at K
      have HP := Lib.hid hp
      clear hm hlen2 hp
      go_wp2_with fail
      refine (K.out _).mono ?_
      clear K hc
      rintro e w1 ⟨rfl, hb1⟩
      have HB := Lib.hid (hB0.out.trans (hb1.mono hB0.out.size))
      by_cases he : er = 0
      · subst he
        have hown2 := own_below hown hb1 (Nat.le_refl _)
        have hzy := HB.out.size
        have hal2 : Hid (∀ l ∈ ls.take (k + 1), (parseS l).2 = 0) := Lib.hid (by
          rw [take_snoc' _ _ _ HX.out]
          intro x hx
          rcases List.mem_append.1 hx with hx | hx
          · exact hall.out x hx
          · obtain rfl := List.mem_singleton.1 hx; rw [HP.out])
        have hou2 : Hid (out ++ [v] = (ls.take (k + 1)).map fun l => (parseS l).1) := Lib.hid (by rw [take_snoc' _ _ _ HX.out, hout.out]; simp [HP.out])
        have hbk4 : ∀ j, u4.ownBlock = some j → w.heap.size ≤ j := fun j hj => (hown.lt j hj).1
        clear hb1 hown
        go_wp2_with (at_builtin; refine wpList_append_lies _ rfl (.tmp 25) (.tmp 27) _ rfl w.heap.size 3 i0 _ 1 8 Tryd.underlying40 hi0 hz0 hz1 hz2 rfl (by decide) _ k (cellsI out) rfl (hown2.alloc _) ⟨w1.heap.size, 0, none⟩ 1 1 [.int .i64 _] rfl rfl (World.news_of_block (heap_alloc_new _ _)) (by simp [Value.oneCell']) (by decide) (by unfold maxLen; omega) (by omega) (by simp; omega) _ rfl ?_; intro g4 cap4 w4 hown4 hgr4 hat4 hlt4)
        go_roundw
        case rel =>
          refine ⟨k + 1, out ++ [v], by omega, by go_num, by simpa [cellsI] using hown4, hou2, hal2, Lib.hid ?_⟩
          exact (HB.out.alloc (by omega) _).grown hgr4 (by simp; omega) (fun j hj => by have := hbk4 j hj; omega)
        case measure => simp only [intOf]; omega
      · have hne : Hid (R = ([], er)) := Lib.hid (by
          rw [HR.out, split_at ls k l HX.out, rowS_err _ _ _ hall.out (by rw [HP.out]; exact he), HP.out])
        have t1 : (er != 0) = true := by simpa using he
        have t2 : (er == 0) = false := by simpa using he
        clear he hb1 hown
        go_wp2_with fail
        first
          | exact FIN.out _ _ (by rw [hne.out]; rfl) (by rw [hne.out]) HB.out
          | (go_ret2; exact FIN.out _ _ (by rw [hne.out]; rfl) (by rw [hne.out]) HB.out)
    · have t0 : decide ((k : Int) < (n : Int)) = false := decide_eq_false (by omega)
      obtain rfl : n = k := by omega
      have htk : ls.take n = ls := List.take_of_length_le (by rw [hlen.out]; omega)
      have hR2 : Hid (R = (out, 0)) := Lib.hid (by
        have h1 := hall.out
        have h2 := hout.out
        rw [htk] at h1 h2
        rw [HR.out, rowS_ok ls h1, h2])
      have hol : Hid (out.length = n) := Lib.hid (by have := hown.1; rw [cellsI_length] at this; omega)
      clear htk
      obtain ⟨A', c', rfl⟩ := own_shape hown
      have HOWN := Lib.hid hown; clear hown
      go_wp2_with fail
      first
        | exact FIN2.out _ _ _ (by rw [hR2.out]) (by rw [hR2.out]; exact hol.out) (by rw [hR2.out]; exact HOWN.out) hB0.out
        | (go_ret2; exact FIN2.out _ _ _ (by rw [hR2.out]) (by rw [hR2.out]; exact hol.out) (by rw [hR2.out]; exact HOWN.out) hB0.out)
end Go.Proofs.YtkdffcoofijhkaaDoor
