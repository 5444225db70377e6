/-
  THE STEPS OF scan.behind.
-/
import Derived.Test.YtkdffcoofijhkaaDoorScanWalkA
import Derived.Test.YtkdffcoofijhkaaDoorRowN
set_option linter.unusedVariables false
set_option linter.unusedSimpArgs false
set_option maxRecDepth 4000
namespace Go.Proofs.YtkdffcoofijhkaaDoor
open Go.RowKit

theorem wrapU8 (n : Int) (h : 0 ≤ n ∧ n ≤ 255) : IntKind.u8.wrap n = n := by
  unfold IntKind.wrap; simp [IntKind.bits, IntKind.signed]; omega
theorem trim_null (l : List UInt8) (w : World) (hl : l.length ≤ 1000) : Calls Tryd.prog 65 #[.string ⟨l.toArray⟩, .string ⟨#[0]⟩] w fun e w' =>
    e = .returned (.string ⟨(Lib.trimB l 0).toArray⟩) ∧ Below w.heap.size w w' :=
  (Tryd.strings_Trim_one ⟨l.toArray⟩ 0 (by decide) w (by simp [ByteArray.size]; omega)).mono fun e w' h => ⟨h.1, by rcases h.2 with h | h <;> rw [h]; exact Below.refl _ _; exact (Below.refl _ _).drew⟩
def behindP (l : List UInt8) : Nat := 256 * numD l / 10 ^ l.length
def behindM (l : List UInt8) : Bool := !(256 * numD l % 10 ^ l.length == 0)

theorem trim_more (ds : List Nat) (hd : ∀ d ∈ ds, d ≤ 9) : (Lib.trimB (ds.map UInt8.ofNat) 0 = [] ↔ valN ds = 0) := by
  rw [trimB_nil, valN_zero]
  constructor
  · intro h d hm
    have := h _ (List.mem_map.2 ⟨d, hm, rfl⟩)
    have h2 := congrArg UInt8.toNat this
    rw [UInt8.toNat_ofNat'] at h2
    have := hd d hm
    simp at h2; omega
  · intro h x hm
    obtain ⟨d, hm2, rfl⟩ := List.mem_map.1 hm
    rw [h d hm2]; rfl

set_option maxHeartbeats 3200000 in
theorem behind_any (l : List UInt8) (w : World) (hl : l.length ≤ 100) (hd : l.all isDig = true) : Calls Tryd.prog 45 #[.string ⟨l.toArray⟩] w fun e w' =>
    e = .returned (.tuple #[.int .i64 (behindP l), .bool (behindM l)]) ∧ Below w.heap.size w w' := by
  have HD := Lib.hid hd; clear hd
  have hcv := fun W => run_bytes_of_string (P := Tryd.prog) W 9 49 5 ⟨l.toArray⟩ Tryd.underlying9 Tryd.underlying49 Tryd.underlying5
  obtain ⟨P, hP⟩ : ∃ P, P = behindP l := ⟨_, rfl⟩
  obtain ⟨M, hM⟩ : ∃ M, M = behindM l := ⟨_, rfl⟩
  rw [← hP, ← hM]
  have HP := Lib.hid hP; clear hP
  have HM := Lib.hid hM; clear hM
  obtain ⟨n, hn⟩ : ∃ n, n = l.length := ⟨_, rfl⟩
  have hsz : (⟨l.toArray⟩ : ByteArray).size = n := hn.symm
  rw [← hn] at hl
  obtain ⟨cap, hcap⟩ : ∃ c, c = grownCap w n 0 5 := ⟨_, rfl⟩
  have hcap2 : n ≤ cap := by rw [hcap]; exact grownCap_ge _ _ _ _
  have r0 := RowN.of_bytes w l cap (by rw [← hn]; exact hcap2) 5
  have hb0 : Below w.heap.size w (w.drew.alloc (.cells (bytesRow ⟨l.toArray⟩ cap) 5 ((bytesRow ⟨l.toArray⟩ cap).size, (bytesRow ⟨l.toArray⟩ cap).size + 1))) := (Below.refl _ _).drew.alloc (Nat.le_refl _) _
  have hz0 : w.heap.size < (w.drew.alloc (.cells (bytesRow ⟨l.toArray⟩ cap) 5 ((bytesRow ⟨l.toArray⟩ cap).size, (bytesRow ⟨l.toArray⟩ cap).size + 1))).heap.size := by simp
  have cv := hcv w
  rw [hsz, ← hcap] at cv
  generalize w.drew.alloc (.cells (bytesRow ⟨l.toArray⟩ cap) 5 ((bytesRow ⟨l.toArray⟩ cap).size, (bytesRow ⟨l.toArray⟩ cap).size + 1)) = V at cv r0 hb0 hz0
  have HR := Lib.hid r0; clear r0
  have HB := Lib.hid hb0; clear hb0
  have HN := Lib.hid hn
  clear hcap hn hcv hsz
  go_enter Tryd.func45, Tryd.ntmps45
  go_wp2_with fail
  go_loopw [14] (fun i wr => ∃ k : Nat, k ≤ n ∧ i = .int .i64 k ∧ Hid (RowN wr w.heap.size ((l.take k).map dv ++ (l.drop k).map UInt8.toNat)) ∧ Hid (Below w.heap.size w wr) ∧ w.heap.size < wr.heap.size) (fun i _ => n - (intOf i).toNat)
  case atStart => exact ⟨0, Nat.zero_le _, rfl, Lib.hid (by simpa using HR.out), HB, hz0⟩
  case round =>
    clear HR HB hz0 cv
    obtain ⟨k, hk, rfl, hr, hB, hz⟩ := hrel
    by_cases hlt : k < n
    · have t0 : decide ((k : Int) < (n : Int)) = true := decide_eq_true (by omega)
      obtain ⟨c, hc⟩ : ∃ c, l[k]? = some c := ⟨_, List.getElem?_eq_getElem (by rw [← HN.out]; exact hlt)⟩
      have hcd := (isDig_iff c).1 (List.all_eq_true.1 HD.out c (List.mem_of_getElem? hc))
      have hlen : Hid (((l.take k).map dv).length = k) := Lib.hid (by simp; rw [← HN.out]; omega)
      have hdr : Hid ((l.drop k).map UInt8.toNat = c.toNat :: (l.drop (k + 1)).map UInt8.toNat) := Lib.hid (by rw [drop_cons' l k c hc]; rfl)
      have htk : Hid ((l.take (k + 1)).map dv = (l.take k).map dv ++ [dv c]) := Lib.hid (by rw [take_snoc' l k c hc]; simp)
      have hj : k < ((l.take k).map dv ++ (l.drop k).map UInt8.toNat).length := by simp; rw [← HN.out]; omega
      have c0 := hr.out.c k c.toNat (by rw [List.getElem?_append_right (by rw [hlen.out]; omega), hlen.out, hdr.out]; simp)
      have f0 := hr.out.f k hj
      have hr2 := Lib.hid (hr.out.set k (dv c) hj)
      have e2 : Hid (((l.take k).map dv ++ (l.drop k).map UInt8.toNat).set k (dv c) = (l.take (k + 1)).map dv ++ (l.drop (k + 1)).map UInt8.toNat) := Lib.hid (by
        rw [List.set_append_right _ _ (by rw [hlen.out]; omega), hlen.out, hdr.out, htk.out]; simp)
      rw [e2.out] at hr2
      have ha : (⟨w.heap.size, 0, none⟩ : Addr).add k = ⟨w.heap.size, k, none⟩ := addr_lit _ _
      have hw : IntKind.u8.wrap ((c.toNat : Int) - 48) = (dv c : Int) := by
        rw [wrapU8 _ (by have := c.toNat_lt; omega)]; unfold dv; omega
      clear hc hj e2 hlen hdr htk hcd
      generalize (dv c : Int) = y at *
      generalize (c.toNat : Int) = x at *
      go_wp2_with fail
      go_roundw
      case rel => exact ⟨k + 1, by omega, by go_num, hr2, Lib.hid (hB.out.setCell (by simp) _), by simpa using hz⟩
      case measure => simp only [intOf]; omega
    · have t0 : decide ((k : Int) < (n : Int)) = false := decide_eq_false (by omega)
      obtain rfl : n = k := by omega
      have HD0 : Hid (Dbl (numD l) n 0 0 (l.map dv)) := Lib.hid ⟨by simp [HN.out], fun d hd => by
        obtain ⟨c, hc, rfl⟩ := List.mem_map.1 hd
        exact dv_le (List.all_eq_true.1 HD.out c hc), by simp [numD]⟩
      have hr0 : Hid (RowN wr w.heap.size (l.map dv)) := Lib.hid (by
        have := hr.out
        rw [List.take_of_length_le (by rw [HN.out]; exact Nat.le_refl _), List.drop_of_length_le (by rw [HN.out]; exact Nat.le_refl _)] at this
        simpa using this)
      have hBN : Hid (numD l < 10 ^ n) := Lib.hid (by rw [HN.out]; exact numD_lt l HD.out)
      clear hr
      go_wp2_with fail
      generalize wr = W1 at hr0 hB hz ⊢
      go_loopw [4, 24] (fun p i wr => ∃ (j P' : Nat) (ds : List Nat), j ≤ 8 ∧ i = .int .i64 j ∧ p = .int .i64 P' ∧ P' ≤ 255 ∧ Hid (Dbl (numD l) n j P' ds) ∧ Hid (RowN wr w.heap.size ds) ∧ Hid (Below w.heap.size w wr) ∧ w.heap.size < wr.heap.size) (fun _ i _ => 8 - (intOf i).toNat)
      case atStart => exact ⟨0, 0, l.map dv, by omega, rfl, rfl, by omega, HD0, hr0, hB, hz⟩
      case round =>
        clear HD0 hr0 hB hz
        obtain ⟨j, P', ds, hj, rfl, rfl, hP', hDb, hr, hB, hz⟩ := hrel
        by_cases hj8 : j < 8
        · have t0 : decide ((j : Int) < 8) = true := decide_eq_true (by omega)
          have hdl : Hid (ds.length = n) := Lib.hid hDb.out.len
          have hdg := Lib.hid hDb.out.dig
          go_wp2_with fail
          generalize wr = W2 at hr hB hz ⊢
          go_loopw [7, 8] (fun cy i wr => ∃ (m q : Nat), m ≤ n ∧ i = .int .i64 ((m : Int) - 1) ∧ cy = .int .u8 (q : Int) ∧ q ≤ 1 ∧ Hid ((dbl (ds.drop m)).1 = q) ∧ Hid (RowN wr w.heap.size (ds.take m ++ (dbl (ds.drop m)).2)) ∧ Hid (Below w.heap.size w wr) ∧ w.heap.size < wr.heap.size) (fun _ i _ => (intOf i + 1).toNat)
          case atStart => exact ⟨n, 0, Nat.le_refl _, rfl, rfl, by omega, Lib.hid (by rw [List.drop_of_length_le (by rw [hdl.out]; exact Nat.le_refl _)]; rfl), Lib.hid (by
            rw [List.drop_of_length_le (by rw [hdl.out]; exact Nat.le_refl _), List.take_of_length_le (by rw [hdl.out]; exact Nat.le_refl _)]; simpa [dbl] using hr.out), hB, hz⟩
          case round =>
            clear hr hB hz
            obtain ⟨m, q, hm, rfl, rfl, hq, hqd, hr, hB, hz⟩ := hrel
            by_cases hm0 : 0 < m
            · obtain ⟨k, rfl⟩ : ∃ k, m = k + 1 := ⟨m - 1, by omega⟩
              have ek : ((k + 1 : Nat) : Int) - 1 = (k : Int) := by omega
              rw [ek]
              have t1 : decide ((0 : Int) ≤ (k : Int)) = true := decide_eq_true (by omega)
              obtain ⟨d, hd⟩ : ∃ d, ds[k]? = some d := ⟨_, List.getElem?_eq_getElem (by rw [hdl.out]; omega)⟩
              have hd9 := hdg.out d (List.mem_of_getElem? hd)
              have hdrop : Hid (ds.drop k = d :: ds.drop (k + 1)) := Lib.hid (drop_cons' ds k d hd)
              have htake : Hid (ds.take (k + 1) = ds.take k ++ [d]) := Lib.hid (take_snoc' ds k d hd)
              have hlen : Hid ((ds.take k).length = k) := Lib.hid (by simp; rw [hdl.out]; omega)
              have hlen2 : k < (ds.take (k + 1) ++ (dbl (ds.drop (k + 1))).2).length := by simp [dbl_len]; rw [hdl.out]; omega
              have c0 := hr.out.c k d (by rw [htake.out, List.append_assoc, List.getElem?_append_right (by rw [hlen.out]; omega), hlen.out]; simp)
              have f0 := hr.out.f k hlen2
              have hr2 := Lib.hid (hr.out.set k ((2 * d + q) % 10) hlen2)
              have e2 : Hid ((ds.take (k + 1) ++ (dbl (ds.drop (k + 1))).2).set k ((2 * d + q) % 10) = ds.take k ++ (dbl (ds.drop k)).2) := Lib.hid (by
                rw [htake.out, List.append_assoc, List.set_append_right _ _ (by rw [hlen.out]; omega), hlen.out, hdrop.out]
                simp [dbl, hqd.out])
              rw [e2.out] at hr2
              have hq2 : Hid ((dbl (ds.drop k)).1 = (2 * d + q) / 10) := Lib.hid (by rw [hdrop.out]; simp [dbl, hqd.out])
              have ha : (⟨w.heap.size, 0, none⟩ : Addr).add k = ⟨w.heap.size, k, none⟩ := addr_lit _ _
              have w1 : IntKind.u8.wrap (2 * (d : Int)) = 2 * (d : Int) := wrapU8 _ (by omega)
              have w2 : IntKind.u8.wrap (2 * (d : Int) + (q : Int)) = 2 * (d : Int) + (q : Int) := wrapU8 _ (by omega)
              have w3 : (2 * (d : Int) + (q : Int)).tmod 10 = ((2 * d + q) % 10 : Nat) := by rw [Int.tmod_eq_emod_of_nonneg (by omega)]; omega
              have w4 : (2 * (d : Int) + (q : Int)).tdiv 10 = ((2 * d + q) / 10 : Nat) := by rw [Int.tdiv_eq_ediv_of_nonneg (by omega)]; omega
              have w5 : IntKind.u8.wrap (((2 * d + q) % 10 : Nat) : Int) = (((2 * d + q) % 10 : Nat) : Int) := wrapU8 _ (by omega)
              have w6 : IntKind.u8.wrap (((2 * d + q) / 10 : Nat) : Int) = (((2 * d + q) / 10 : Nat) : Int) := wrapU8 _ (by omega)
              have b7 : (2 * d + q) / 10 ≤ 1 := by omega
              generalize (2 * d + q) % 10 = y at *
              generalize (2 * d + q) / 10 = z at *
              clear hd hlen2 e2 hd9 ek
              go_wp2_with fail
              go_roundw
              case rel => exact ⟨k, z, by omega, by go_num, rfl, b7, hq2, hr2, Lib.hid (hB.out.setCell (by simp) _), by simpa using hz⟩
              case measure => simp only [intOf]; omega
            · obtain rfl : m = 0 := by omega
              have hnx := hDb.out.next
              rw [show (dbl ds).1 = q from by simpa using hqd.out] at hnx
              have hDb2 := Lib.hid hnx; clear hnx
              have hlt2 : Hid (2 * P' + q < 256) := Lib.hid (Nat.lt_of_lt_of_le (hDb2.out.lt hBN.out) (show 2 ^ (j + 1) ≤ 2 ^ 8 from Nat.pow_le_pow_right (by decide) (by omega)))
              have hlt3 := hlt2.out
              have hr2 : Hid (RowN wr w.heap.size (dbl ds).2) := Lib.hid (by simpa using hr.out)
              clear hr hlt2
              go_wp2_with fail
              go_roundw
              case rel => exact ⟨j + 1, 2 * P' + q, (dbl ds).2, by omega, by go_num, by go_num, by omega, hDb2, hr2, hB, hz⟩
              case measure => simp only [intOf]; omega
        · have t0 : decide ((j : Int) < 8) = false := decide_eq_false (by omega)
          obtain rfl : j = 8 := by omega
          obtain ⟨hdone1, hdone2⟩ := hDb.out.done
          have HP2 : Hid (P' = P) := Lib.hid (by rw [HP.out, hdone1]; unfold behindP; rw [← HN.out])
          have HM2 : Hid (M = !(valN ds == 0)) := Lib.hid (by rw [HM.out, hdone2]; unfold behindM; rw [← HN.out])
          have hdg := Lib.hid hDb.out.dig
          have hdl := Lib.hid hDb.out.len
          have kc := hr.out.text (P := Tryd.prog) (fun d hd => by have := hdg.out d hd; omega) n cap hdl.out.symm 49 9 5 Tryd.underlying49 Tryd.underlying5 Tryd.underlying9
          have K := Lib.hid (fun W => trim_null (ds.map UInt8.ofNat) W (by rw [List.length_map, hdl.out]; omega))
          have HT := Lib.hid (trim_more ds hdg.out)
          generalize Lib.trimB (ds.map UInt8.ofNat) 0 = t at K HT
          generalize ds.map UInt8.ofNat = u at K kc
          clear hdone1 hdone2
          go_wp2_with fail
          refine (K.out _).mono ?_
          clear K kc
          rintro e w' ⟨rfl, hbb⟩
          have HB := Lib.hid (hB.out.trans (hbb.mono (by omega)))
          obtain rfl := HP2.out
          clear hbb HP2
          cases t with
          | nil =>
            obtain rfl : M = false := by rw [HM2.out, HT.out.1 rfl]; rfl
            go_wp2_with fail
            go_ret2
            exact ⟨rfl, HB.out⟩
          | cons a r =>
            obtain rfl : M = true := by
              rw [HM2.out]
              have : valN ds ≠ 0 := fun h => by have := HT.out.2 h; cases this
              simpa using this
            go_wp2_with fail
            go_ret2
            exact ⟨rfl, HB.out⟩
end Go.Proofs.YtkdffcoofijhkaaDoor
