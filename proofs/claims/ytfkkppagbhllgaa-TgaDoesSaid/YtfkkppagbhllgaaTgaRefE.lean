/-
  THE WALK OF limewashref29.turned.
-/
import Derived.Test.YtfkkppagbhllgaaTgaRefA
import Derived.Test.YtfkkppagbhllgaaTgaWalkH
set_option linter.unusedVariables false
set_option linter.unusedSimpArgs false
set_option maxRecDepth 100000
namespace Go.Proofs.Ytfkkppagbhllgaa
open Go.RowKit

set_option maxHeartbeats 1600000 in
theorem turnref_any (z m : Nat) (s : List UInt8) (w : World) (hz : z = 3 ∨ z = 4) (hl : s.length ≤ 1000000) (hm : s.length = m * z) (hm0 : 0 < m) :
    Calls Try.prog 50 #[.string ⟨s.toArray⟩, .int .i64 (z : Int)] w (SR w (turnedT z s)) := by
  have hz9 : 1 ≤ z ∧ z ≤ 4 := by omega
  have hz3 : 3 ≤ z := by omega
  have hT : turnedT z s = turnK z s m := by
    unfold turnedT
    rw [hm, Nat.mul_div_cancel _ (by omega)]
  rw [hT]
  have hcv := run_bytes_of_string (P := Try.prog) w 9 22 5 ⟨s.toArray⟩ Try.underlying9 Try.underlying22 Try.underlying5
  obtain ⟨n, hn⟩ : ∃ n, n = s.length := ⟨_, rfl⟩
  have hsz : (⟨s.toArray⟩ : ByteArray).size = n := hn.symm
  have hn0 : 0 < n := by rw [hn, hm]; exact Nat.mul_pos hm0 (by omega)
  rw [← hn] at hl
  obtain ⟨cap, hcap⟩ : ∃ c, c = grownCap w n 0 5 := ⟨_, rfl⟩
  have hcap2 : n ≤ cap := by rw [hcap]; exact grownCap_ge _ _ _ _
  have hcap3 : cap ≤ 9223372036854775807 := by rw [hcap]; exact grownCap_le_maxLen _ _ _ _ (by unfold maxLen; omega)
  have r0 := RowN.of_bytes w s cap (by rw [← hn]; exact hcap2) 5
  have hb0 : Below w.heap.size w (w.drew.alloc (.cells (bytesRow ⟨s.toArray⟩ cap) 5 ((bytesRow ⟨s.toArray⟩ cap).size, (bytesRow ⟨s.toArray⟩ cap).size + 1))) := (Below.refl _ _).drew.alloc (Nat.le_refl _) _
  have hz0 : (w.drew.alloc (.cells (bytesRow ⟨s.toArray⟩ cap) 5 ((bytesRow ⟨s.toArray⟩ cap).size, (bytesRow ⟨s.toArray⟩ cap).size + 1))).heap.size = w.heap.size + 1 := by simp
  rw [hsz, ← hcap] at hcv
  obtain ⟨V, hV⟩ : ∃ V, V = w.drew.alloc (.cells (bytesRow ⟨s.toArray⟩ cap) 5 ((bytesRow ⟨s.toArray⟩ cap).size, (bytesRow ⟨s.toArray⟩ cap).size + 1)) := ⟨_, rfl⟩
  rw [← hV] at hcv r0 hb0 hz0
  clear hV hcap
  have FIN : Hid (∀ w', Below w.heap.size w w' → SR w (turnK z s m) (.returned (.string ⟨(turnK z s m).toArray⟩)) w') := Lib.hid fun w' hb => ⟨rfl, hb⟩
  generalize hQ : SR w (turnK z s m) = Qp at FIN ⊢
  clear hQ
  have HN := Lib.hid hn
  have HMM : Hid (n = m * z) := Lib.hid (hn.trans hm)
  have hzV : w.heap.size < V.heap.size := by omega
  clear hn hm hsz hT hz0
  go_enter Try.func50, Try.ntmps50
  go_wp2_with fail
  go_loopw [6] (fun i wr => ∃ (k a : Nat), k ≤ m ∧ Hid (a = k * z) ∧ a ≤ n ∧ i = .int .i64 (a : Int) ∧ Hid (RowN wr w.heap.size ((turnK z s k).map UInt8.toNat)) ∧ Hid (Below w.heap.size w wr) ∧ w.heap.size < wr.heap.size) (fun i _ => n - (intOf i).toNat)
  case atStart => exact ⟨0, 0, Nat.zero_le _, Lib.hid (by simp), Nat.zero_le _, rfl, Lib.hid r0, Lib.hid hb0, hzV⟩
  case round =>
    obtain ⟨k, a, hk, hak, han, rfl, hr, hb, hzr⟩ := hrel
    clear r0 hb0 hcv hzV
    have waz : IntKind.i64.wrap ((a : Int) + (z : Int)) = (a : Int) + (z : Int) := by rw [IntKind.wrap_i64]; omega
    by_cases hkm : k < m
    · have haz : a + z ≤ n := by
        rw [hak.out, HMM.out, ← Nat.succ_mul]; exact Nat.mul_le_mul_right _ hkm
      have t0 : decide ((a : Int) + (z : Int) ≤ (n : Int)) = true := decide_eq_true (by omega)
      have t0n : decide (a + z ≤ n) = true := decide_eq_true (by omega)
      have hlf : (turnK z s k).length = n := by rw [turnK_len, HN.out]
      have hS : Hid (turnK z s (k + 1) = swapT (turnK z s k) a) := Lib.hid (by rw [turnK, hak.out])
      generalize turnK z s k = x at *
      have hml : (x.map UInt8.toNat).length = n := by simp [hlf]
      have hr0 := hr.out
      have hr1 := hr0.set a (x.getD (a + 2) 0).toNat (by omega)
      have hr2 := hr1.set (a + 2) (x.getD a 0).toNat (by simp; omega)
      rw [← swap_nat x a (by omega), ← hS.out] at hr2
      have HR2 := Lib.hid hr2
      have c0 : wr.cell? ⟨w.heap.size, a, none⟩ = some (.int .u8 ((x.getD a 0).toNat : Int)) := hr0.c _ _ (by rw [List.getElem?_map, List.getElem?_eq_getElem (by omega), List.getD_eq_getElem?_getD, List.getElem?_eq_getElem (by omega)]; rfl)
      have c2 : wr.cell? ⟨w.heap.size, a + 2, none⟩ = some (.int .u8 ((x.getD (a + 2) 0).toNat : Int)) := hr0.c _ _ (by rw [List.getElem?_map, List.getElem?_eq_getElem (by omega), List.getD_eq_getElem?_getD, List.getElem?_eq_getElem (by omega)]; rfl)
      have f0 := hr0.f a (by omega)
      have f2 := hr0.f (a + 2) (by omega)
      have w2 : IntKind.i64.wrap ((a : Int) + 2) = (a : Int) + 2 := by rw [IntKind.wrap_i64]; omega
      have i0 : (0 : Int) ≤ (a : Int) := by omega
      have i1 : (a : Int) < (n : Int) := by omega
      have i2 : (0 : Int) ≤ (a : Int) + 2 := by omega
      have i3 : (a : Int) + 2 < (n : Int) := by omega
      have i4 : ((a : Int) + 2).toNat = a + 2 := by omega
      have HB2 := Lib.hid ((hb.out.setCell (p := ⟨w.heap.size, a, none⟩) (Nat.le_refl _) (.int .u8 ((x.getD (a + 2) 0).toNat : Int))).setCell (p := ⟨w.heap.size, a + 2, none⟩) (Nat.le_refl _) (.int .u8 ((x.getD a 0).toNat : Int)))
      clear hr0 hr1 hr2 hml hlf hr
      generalize ((x.getD a 0).toNat : Int) = v0 at *
      generalize ((x.getD (a + 2) 0).toNat : Int) = v2 at *
      go_wp2_with fail
      go_roundw
      case rel => exact ⟨k + 1, a + z, hkm, Lib.hid (by rw [hak.out, Nat.succ_mul]), haz, by go_num, HR2, HB2, by simpa using hzr⟩
      case measure => simp only [intOf]; omega
    · obtain rfl : k = m := by omega
      have haz : a = n := by rw [hak.out, HMM.out]
      have t0 : decide ((a : Int) + (z : Int) ≤ (n : Int)) = false := decide_eq_false (by omega)
      have t0n : decide (a + z ≤ n) = false := decide_eq_false (by omega)
      have hlf : (turnK z s k).length = n := by rw [turnK_len, HN.out]
      have kc := hr.out.text (P := Try.prog) (fun d hd => by obtain ⟨x, _, rfl⟩ := List.mem_map.1 hd; exact x.toNat_lt) n cap (by simp [hlf]) 22 9 5 Try.underlying22 Try.underlying5 Try.underlying9
      have e9 : (((turnK z s k).map UInt8.toNat).map UInt8.ofNat) = turnK z s k := by
        rw [List.map_map]
        have : (UInt8.ofNat ∘ UInt8.toNat) = id := by funext x; simp
        rw [this, List.map_id]
      rw [e9] at kc
      clear e9 hlf hr haz
      go_wp2_with fail
      exact FIN.out _ hb.out
end Go.Proofs.Ytfkkppagbhllgaa
