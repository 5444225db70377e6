/-
  THE LAW ScanDoes.
-/
import Derived.Test.YtkdffcoofijhkaaDoorScanDoF
import Derived.Test.YtkdffcoofijhkaaDoorScanDoC
import Derived.Test.YtkdffcoofijhkaaDoorScanDoA
import Derived.Test.YtkdffcoofijhkaaDoorScanWalkG
import Derived.Test.YtkdffcoofijhkaaDoorFaceRfA
set_option linter.unusedVariables false
set_option linter.unusedSimpArgs false
set_option maxRecDepth 100000
namespace Go.Proofs.YtkdffcoofijhkaaDoor
open Go.RowKit

theorem parseS_i64 (l : List UInt8) : -9223372036854775808 ≤ (parseS l).1 ∧ (parseS l).1 ≤ 9223372036854775807 := by
  unfold parseS
  split
  · split
    · rename_i h; simp only; omega
    · simp
  · simp
theorem rowS_i64 : ∀ (ls : List (List UInt8)), ∀ d ∈ (rowS ls).1, -9223372036854775808 ≤ d ∧ d ≤ 9223372036854775807
  | [], d, h => by simp [rowS] at h
  | l :: r, d, h => by
    have ih := rowS_i64 r
    unfold rowS at h
    split at h
    · split at h
      · simp only [List.mem_cons] at h
        rcases h with rfl | h
        · exact parseS_i64 l
        · exact ih d h
      · simp at h
    · simp at h
theorem rowS_len : ∀ (ls : List (List UInt8)), (rowS ls).1.length ≤ ls.length
  | [] => by simp [rowS]
  | l :: r => by
    have ih := rowS_len r
    unfold rowS
    split
    · split
      · simpa using ih
      · simp
    · simp

set_option maxHeartbeats 6400000 in
theorem scandoes_any (B : Nat) (l : List UInt8) (z : Int) (A : Option Addr) (n cA : Nat) (ls : List (List UInt8)) (w : World) (hl : l.length ≤ 9223372036854775807) (hz : i64b z)
    (h : Strs w B A n ls) (hB : B ≤ w.heap.size) (hs : ∀ l ∈ ls, l.length ≤ 9223372036854775807) (hE : Env w) :
    Calls Tryd.prog 5 #[.string ⟨l.toArray⟩, .slice A n cA, .int .i64 z] w fun e w' => e = .returned (.bool true) ∧ Below w.heap.size w w' := by
  have K0 := Lib.hid (far5_any B A n cA ls w h hs)
  have KP := Lib.hid (fun (h1 : l.length ≤ 100000) W (hW : Env W) => parse_any l W h1 hW)
  have KPr := Lib.hid (fun (h1 : l.length ≤ 100000) W => sparseref_any l W h1)
  have KR := Lib.hid (fun hn hl W (hW : Below w.heap.size w W) => row_any B A n cA ls W (h.below hW hB) (Nat.le_trans hB hW.size) hn hl (hE.on hW))
  have KRr := Lib.hid (fun hn hl W (hW : Below w.heap.size w W) => srowref_any B A n cA ls W (h.below hW hB) (Nat.le_trans hB hW.size) hn hl)
  have KT := Lib.hid (fun W (hW : Env W) => print_any z W hz hW)
  have KTr := Lib.hid (fun W => sprintref_any z W hz)
  have KW := Lib.hid (fun (h1 : l.length ≤ 100000) W (hW : Env W) => whole_any l W h1 hW)
  have KWr := Lib.hid (fun (h1 : l.length ≤ 100000) W => wholeref_any l W h1)
  have KD := Lib.hid (fun W hW => scanned_any W hW)
  have HRI := Lib.hid (rowS_i64 ls)
  have HRL : Hid ((rowS ls).1.length ≤ n) := Lib.hid (by have := rowS_len ls; have := h.length; omega)
  have HE := Lib.hid hE
  clear h hE hs hz
  generalize rowS ls = RR at *
  generalize parseS l = PP at *
  generalize printR z = TT at *
  generalize wholeS l = WW at *
  obtain ⟨rs, re⟩ := RR
  obtain ⟨p0, pe⟩ := PP
  obtain ⟨tx, te⟩ := TT
  obtain ⟨wv, we⟩ := WW
  unfold SE NE2 ListRes at *
  simp only at *
  by_cases hlong : 100 < l.length
  · have t0 : decide ((100 : Int) < (l.length : Int)) = true := decide_eq_true (by omega)
    clear K0 KP KPr KR KRr KT KTr KW KWr KD
    go_enter Tryd.func5, Tryd.ntmps5
    go_wp2_with fail
    go_ret
    exact ⟨rfl, Below.refl _ _⟩
  have t0 : decide ((100 : Int) < (l.length : Int)) = false := decide_eq_false (by omega)
  have KP' := Lib.hid (KP.out (by omega)); have KPr' := Lib.hid (KPr.out (by omega)); have KW' := Lib.hid (KW.out (by omega)); have KWr' := Lib.hid (KWr.out (by omega))
  clear KP KPr KW KWr
  go_enter Tryd.func5, Tryd.ntmps5
  go_wp2_with fail
  refine K0.out.mono ?_
  clear K0
  rintro e w0 ⟨b, rfl, hw0, hfar⟩
  subst hw0
  cases b with
  | true =>
    go_wp2_with fail
    go_ret
    exact ⟨rfl, Below.refl _ _⟩
  | false =>
  obtain ⟨hn30, hll⟩ := hfar rfl
  have KR' := Lib.hid (KR.out (by omega) (fun l hx => by have := hll l hx; omega))
  have KRr' := Lib.hid (KRr.out (by omega) (fun l hx => by have := hll l hx; omega))
  clear hfar KR KRr hll
  have HB := Lib.hid (Below.refl w0.heap.size w0)
  go_wp2_with fail
  -- Parse
  refine (KP'.out _ (HE.out.on HB.out)).mono ?_
  clear KP'
  rintro e w1 ⟨rfl, hb1⟩
  have HB := Lib.hid (HB.out.trans (hb1.mono HB.out.size))
  clear hb1
  go_wp2_with fail
  refine (KPr'.out _).mono ?_
  clear KPr'
  rintro e w2 ⟨rfl, hb1⟩
  have HB := Lib.hid (HB.out.trans (hb1.mono HB.out.size))
  clear hb1
  go_wp2_with fail
  -- Row
  refine (KR'.out _ HB.out).mono ?_
  clear KR'
  rintro e w3 ⟨A1, k1, rfl, hown, hb1⟩
  have HB := Lib.hid (HB.out.trans (hb1.mono HB.out.size))
  have HT1 : Hid (Ints w3 w3.heap.size A1 rs.length rs) := Lib.hid (Ints.of_own hown HRI.out (by have := HRL.out; omega))
  clear hb1 hown
  go_wp2_with fail
  refine (KRr'.out _ HB.out).mono ?_
  clear KRr'
  rintro e w4 ⟨A2, k2, rfl, hown, hb1⟩
  have HT1 := Lib.hid ((HT1.out.below hb1 (Nat.le_refl _)).more hb1.size)
  have HB := Lib.hid (HB.out.trans (hb1.mono HB.out.size))
  have HT2 : Hid (Ints w4 w4.heap.size A2 rs.length rs) := Lib.hid (Ints.of_own hown HRI.out (by have := HRL.out; omega))
  clear hb1 hown
  go_wp2_with fail
  -- Print
  refine (KT.out _ (HE.out.on HB.out)).mono ?_
  clear KT
  rintro e w5 ⟨rfl, hb1⟩
  have HT1 := Lib.hid ((HT1.out.below hb1 (Nat.le_refl _)).more hb1.size)
  have HT2 := Lib.hid ((HT2.out.below hb1 (Nat.le_refl _)).more hb1.size)
  have HB := Lib.hid (HB.out.trans (hb1.mono HB.out.size))
  clear hb1
  go_wp2_with fail
  refine (KTr.out _).mono ?_
  clear KTr
  rintro e w6 ⟨rfl, hb1⟩
  have HT1 := Lib.hid ((HT1.out.below hb1 (Nat.le_refl _)).more hb1.size)
  have HT2 := Lib.hid ((HT2.out.below hb1 (Nat.le_refl _)).more hb1.size)
  have HB := Lib.hid (HB.out.trans (hb1.mono HB.out.size))
  clear hb1
  go_wp2_with fail
  -- Whole
  refine (KW'.out _ (HE.out.on HB.out)).mono ?_
  clear KW'
  rintro e w7 ⟨rfl, hb1⟩
  have HT1 := Lib.hid ((HT1.out.below hb1 (Nat.le_refl _)).more hb1.size)
  have HT2 := Lib.hid ((HT2.out.below hb1 (Nat.le_refl _)).more hb1.size)
  have HB := Lib.hid (HB.out.trans (hb1.mono HB.out.size))
  clear hb1
  go_wp2_with fail
  refine (KWr'.out _).mono ?_
  clear KWr'
  rintro e w8 ⟨rfl, hw8⟩
  subst hw8
  go_wp2_with fail
  -- scanned
  refine (KD.out _ (HE.out.on HB.out)).mono ?_
  clear KD
  rintro e w9 ⟨rfl, hb1⟩
  have HT1 := Lib.hid ((HT1.out.below hb1 (Nat.le_refl _)).more hb1.size)
  have HT2 := Lib.hid ((HT2.out.below hb1 (Nat.le_refl _)).more hb1.size)
  have HB := Lib.hid (HB.out.trans (hb1.mono HB.out.size))
  clear hb1
  have KS := Lib.hid (same_b _ _ A1 A2 rs.length k1 rs.length k2 rs rs w9 HT1.out HT2.out)
  rw [show sameL rs rs = true by simp [sameL]] at KS
  go_wp2_with fail
  refine KS.out.mono ?_
  clear KS HT1 HT2
  rintro e w10 ⟨rfl, hb1⟩
  have HB := Lib.hid (HB.out.trans (hb1.mono HB.out.size))
  clear hb1
  go_wp2_with fail
  go_ret
  exact ⟨rfl, HB.out⟩
theorem scandoes_row (B : Nat) (s : ByteArray) (A : Option Addr) (n cA : Nat) (ls : List (List UInt8)) (z : Int) (w : World) (hl : s.size ≤ maxLen) (hz : i64b z)
    (h : Strs w B A n ls) (hB : B ≤ w.heap.size) (hs : ∀ l ∈ ls, l.length ≤ 9223372036854775807) (hE : Env w) :
    Calls Tryd.prog 5 #[.string s, .slice A n cA, .int .i64 z] w fun e w' => e = .returned (.bool true) ∧ Below w.heap.size w w' := by
  have h := scandoes_any B s.data.toList z A n cA ls w (by unfold maxLen at hl; have e := Lib.size_eq s; omega) hz h hB hs hE
  rw [Lib.mk_data] at h
  exact h
end Go.Proofs.YtkdffcoofijhkaaDoor
