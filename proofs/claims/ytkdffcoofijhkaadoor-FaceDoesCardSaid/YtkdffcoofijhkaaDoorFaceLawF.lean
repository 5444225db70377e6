/-
  THE LAW FaceDoes.
-/
import Derived.Test.YtkdffcoofijhkaaDoorFaceLawD
import Derived.Test.YtkdffcoofijhkaaDoorFaceRfD
import Derived.Test.YtkdffcoofijhkaaDoorFaceRfF
set_option linter.unusedVariables false
set_option linter.unusedSimpArgs false
set_option maxRecDepth 100000
namespace Go.Proofs.YtkdffcoofijhkaaDoor
open Go.RowKit

theorem corsR_len (m : P3) : ∀ ls : List (List UInt8), (corsR m ls).1.length ≤ ls.length
  | [] => by simp [corsR]
  | l :: r => by
    have h := corsR_len m r
    unfold corsR
    split
    · split
      · simpa using h
      · simp
    · simp
theorem faceR_len (m : P3) (ls : List (List UInt8)) : (faceR m ls).1.length ≤ ls.length := by
  have h := corsR_len m ls
  unfold faceR
  split
  · simp
  · split
    · simp
    · split
      · simp only [fanS_length]; omega
      · simp
def Cel (b : Nat) (c : P3) (W : World) : Prop := SlotN W b [.int .i64 c.a, .int .i64 c.b, .int .i64 c.c] ∧ b < W.heap.size
theorem Cel.below {b : Nat} {c : P3} {W W' : World} (h : Cel b c W) (hb : Below W.heap.size W W') : Cel b c W' := ⟨h.1.below hb h.2, by have := hb.size; have := h.2; omega⟩
theorem Cel.new (W : World) (a b c : Int) : Cel W.heap.size ⟨a, b, c⟩ (W.alloc (.cells #[.int .i64 a, .int .i64 b, .int .i64 c] 26)) := ⟨SlotN.new W [.int .i64 a, .int .i64 b, .int .i64 c] #[.int .i64 a, .int .i64 b, .int .i64 c] 26 rfl, by simp⟩

set_option maxHeartbeats 12800000 in
theorem facedoes_any (B B6 : Nat) (l : List UInt8) (m c : P3) (A A6 : Option Addr) (n cA n6 c6 : Nat) (ls : List (List UInt8)) (cs : List P3) (w : World) (hl : l.length ≤ 9223372036854775807) (hm : m.bd) (hc : c.bd)
    (h : Strs w B A n ls) (hB : B ≤ w.heap.size) (hs : ∀ l ∈ ls, l.length ≤ 9223372036854775807) (h6 : Cors w B6 A6 n6 cs) (hB6 : B6 ≤ w.heap.size) (hE : Env w) :
    Calls Tryd.prog 10 #[.string ⟨l.toArray⟩, .int .i64 m.a, .int .i64 m.b, .int .i64 m.c, p3V c, .slice A n cA, .slice A6 n6 c6] w (Yes w) := by
  have K0 := Lib.hid (fun W (hW : Below w.heap.size w W) => far7_any B A n cA ls W (h.below hW hB) hs)
  have KC := Lib.hid (fun (h1 : l.length ≤ 100000) W (hW : Env W) => corner_any l m W h1 hW hm)
  have KCr := Lib.hid (fun (h1 : l.length ≤ 100000) W => cornerref_any l m W h1 hm)
  have KP := Lib.hid (fun (h1 : l.length ≤ 100000) W (hW : Env W) => place2_any l m.a W h1 hm.1 hW)
  have KPr := Lib.hid (fun (h1 : l.length ≤ 100000) W => placeref_any l m.a W h1 hm.1)
  have KF := Lib.hid (fun W (hW : Env W) => fprint_any c W hc hW)
  have KFr := Lib.hid (fun W => printref_any c W hc)
  have KA := Lib.hid (fun hn hl W (hW : Below w.heap.size w W) => face_any B A n cA m ls W (h.below hW hB) (Nat.le_trans hB hW.size) hn hl hm (hE.on hW))
  have KAr := Lib.hid (fun hn hl W (hW : Below w.heap.size w W) => faceref_any B A n cA m ls W (h.below hW hB) (Nat.le_trans hB hW.size) hn hl hm)
  have KD := Lib.hid (fun W hW => faced_any W hW)
  have KN := Lib.hid (fun hn W (hW : Below w.heap.size w W) => fan_any B6 A6 n6 c6 cs W (h6.below hW hB6) (Nat.le_trans hB6 hW.size) hn)
  have KNr := Lib.hid (fun hn W (hW : Below w.heap.size w W) => fanref_any B6 A6 n6 c6 cs W (h6.below hW hB6) (Nat.le_trans hB6 hW.size) hn)
  have HLF := Lib.hid (faceR_len m ls)
  have hfan : Hid ((fanS cs).length ≤ n6) := Lib.hid (by rw [fanS_length, h6.length]; omega)
  have hlen := Lib.hid h.length
  have HE := Lib.hid hE
  clear h h6 hE hs hm hc
  generalize faceR m ls = RF at *
  generalize cornerR l m = RC at *
  generalize placeR l m.a = RP at *
  generalize printC c = RT at *
  generalize fanS cs = FS at *
  obtain ⟨m0, m1, m2⟩ := m
  obtain ⟨c0, c1, c2⟩ := c
  obtain ⟨⟨x0, x1, x2⟩, xe⟩ := RC
  obtain ⟨p0, pe⟩ := RP
  obtain ⟨tx, te⟩ := RT
  obtain ⟨ts, fe⟩ := RF
  unfold Yes SE NE2 CornerRes FaceRes ListRes FanRes LoneRes p3V at *
  simp only at *
  by_cases hlong : 100 < l.length
  · have t0 : decide ((100 : Int) < (l.length : Int)) = true := decide_eq_true (by omega)
    clear K0 KC KCr KP KPr KF KFr KA KAr KD KN KNr
    go_enter Tryd.func10, Tryd.ntmps10
    go_wp2_with fail
    go_ret
    exact ⟨rfl, (Below.refl _ _).alloc (Nat.le_refl _) _⟩
  have t0 : decide ((100 : Int) < (l.length : Int)) = false := decide_eq_false (by omega)
  have KC' := Lib.hid (KC.out (by omega)); have KCr' := Lib.hid (KCr.out (by omega)); have KP' := Lib.hid (KP.out (by omega)); have KPr' := Lib.hid (KPr.out (by omega))
  clear KC KCr KP KPr
  have hS := Cel.new w c0 c1 c2
  have hb : Below w.heap.size w (w.alloc (.cells #[.int .i64 c0, .int .i64 c1, .int .i64 c2] 26)) := (Below.refl _ _).alloc (Nat.le_refl _) _
  have HS := Lib.hid hS; have HB := Lib.hid hb
  clear hS hb
  go_enter Tryd.func10, Tryd.ntmps10
  go_wp2_with fail
  generalize w.alloc (.cells #[.int .i64 c0, .int .i64 c1, .int .i64 c2] 26) = V0 at HS HB ⊢
  refine (K0.out _ HB.out).mono ?_
  clear K0
  rintro e w0 ⟨b, rfl, hw0, hfar⟩
  subst hw0
  cases b with
  | true =>
    go_wp2_with fail
    go_ret
    exact ⟨rfl, HB.out⟩
  | false =>
  obtain ⟨hn30, hll⟩ := hfar rfl
  have KA' := Lib.hid (KA.out (by omega) (fun l hx => by have := hll l hx; omega))
  have KAr' := Lib.hid (KAr.out (by omega) (fun l hx => by have := hll l hx; omega))
  have hts : Hid (ts.length ≤ 30) := Lib.hid (by have h1 := HLF.out; have h2 := hlen.out; omega)
  clear hfar KA KAr hll HLF hlen
  cases t6 : decide ((60 : Int) < (n6 : Int)) with
  | true =>
    go_wp2_with fail
    go_ret
    exact ⟨rfl, HB.out⟩
  | false =>
  have hn60 : n6 ≤ 60 := by have := of_decide_eq_false t6; omega
  have KN' := Lib.hid (KN.out (by omega))
  have KNr' := Lib.hid (KNr.out (by omega))
  clear KN KNr
  go_wp2_with fail
  -- Corner
  refine (KC'.out _ (HE.out.on HB.out)).mono ?_
  clear KC'
  rintro e w1 ⟨rfl, hb1⟩
  have HS := Lib.hid (HS.out.below hb1)
  have HB := Lib.hid (HB.out.trans (hb1.mono HB.out.size))
  have hnew := Cel.new w1 x0 x1 x2
  have hbn : Below w1.heap.size w1 (w1.alloc (.cells #[.int .i64 x0, .int .i64 x1, .int .i64 x2] 26)) := (Below.refl _ _).alloc (Nat.le_refl _) _
  have HS := Lib.hid (HS.out.below hbn)
  have HB := Lib.hid (HB.out.trans (hbn.mono HB.out.size))
  have HX := Lib.hid hnew
  clear hb1 hbn hnew
  go_wp2_with fail
  generalize hbk1 : w1.heap.size = b1 at *
  generalize w1.alloc (.cells #[.int .i64 x0, .int .i64 x1, .int .i64 x2] 26) = V1 at HS HB HX ⊢
  clear hbk1
  -- ref Corner
  refine (KCr'.out _).mono ?_
  clear KCr'
  rintro e w2 ⟨rfl, hb1⟩
  have HS := Lib.hid (HS.out.below hb1)
  have HX := Lib.hid (HX.out.below hb1)
  have HB := Lib.hid (HB.out.trans (hb1.mono HB.out.size))
  have hnew := Cel.new w2 x0 x1 x2
  have hbn : Below w2.heap.size w2 (w2.alloc (.cells #[.int .i64 x0, .int .i64 x1, .int .i64 x2] 26)) := (Below.refl _ _).alloc (Nat.le_refl _) _
  have HS := Lib.hid (HS.out.below hbn)
  have HX := Lib.hid (HX.out.below hbn)
  have HB := Lib.hid (HB.out.trans (hbn.mono HB.out.size))
  have HY := Lib.hid hnew
  clear hb1 hbn hnew
  go_wp2_with fail
  generalize hbk2 : w2.heap.size = b2 at *
  generalize w2.alloc (.cells #[.int .i64 x0, .int .i64 x1, .int .i64 x2] 26) = V2 at HS HB HX HY ⊢
  clear hbk2
  -- Place
  refine (KP'.out _ (HE.out.on HB.out)).mono ?_
  clear KP'
  rintro e w3 ⟨rfl, hb1⟩
  have HS := Lib.hid (HS.out.below hb1)
  have HX := Lib.hid (HX.out.below hb1)
  have HY := Lib.hid (HY.out.below hb1)
  have HB := Lib.hid (HB.out.trans (hb1.mono HB.out.size))
  clear hb1
  go_wp2_with fail
  refine (KPr'.out _).mono ?_
  clear KPr'
  rintro e w4 ⟨rfl, hw4⟩
  subst hw4
  have d0 := HS.out.1.c 0 _ rfl
  have d1 := HS.out.1.c 1 _ rfl
  have d2 := HS.out.1.c 2 _ rfl
  go_wp2_with fail
  clear d0 d1 d2
  -- Print
  refine (KF.out _ (HE.out.on HB.out)).mono ?_
  clear KF
  rintro e w5 ⟨rfl, hb1⟩
  have HS := Lib.hid (HS.out.below hb1)
  have HX := Lib.hid (HX.out.below hb1)
  have HY := Lib.hid (HY.out.below hb1)
  have HB := Lib.hid (HB.out.trans (hb1.mono HB.out.size))
  clear hb1
  have d0 := HS.out.1.c 0 _ rfl
  have d1 := HS.out.1.c 1 _ rfl
  have d2 := HS.out.1.c 2 _ rfl
  go_wp2_with fail
  clear d0 d1 d2
  refine (KFr.out _).mono ?_
  clear KFr
  rintro e w6 ⟨rfl, hb1⟩
  have HX := Lib.hid (HX.out.below hb1)
  have HY := Lib.hid (HY.out.below hb1)
  have HB := Lib.hid (HB.out.trans (hb1.mono HB.out.size))
  clear hb1 HS
  go_wp2_with fail
  -- Face
  refine (KA'.out _ HB.out).mono ?_
  clear KA'
  rintro e w7 ⟨A1, k1, rfl, hown, hb1⟩
  have HX := Lib.hid (HX.out.below hb1)
  have HY := Lib.hid (HY.out.below hb1)
  have HB := Lib.hid (HB.out.trans (hb1.mono HB.out.size))
  have HT1 : Hid (Tris w7 w7.heap.size A1 ts.length ts) := Lib.hid ⟨Rd.of_own hown, by have := hts.out; omega⟩
  clear hb1 hown
  go_wp2_with fail
  refine (KAr'.out _ HB.out).mono ?_
  clear KAr'
  rintro e w8 ⟨A2, k2, rfl, hown, hb1⟩
  have HT1 := Lib.hid (HT1.out.below hb1 (Nat.le_refl _))
  have HX := Lib.hid (HX.out.below hb1)
  have HY := Lib.hid (HY.out.below hb1)
  have HB := Lib.hid (HB.out.trans (hb1.mono HB.out.size))
  have HT2 : Hid (Tris w8 w8.heap.size A2 ts.length ts) := Lib.hid ⟨Rd.of_own hown, by have := hts.out; omega⟩
  have hz78 := hb1.size
  clear hb1 hown
  go_wp2_with fail
  -- faced
  refine (KD.out _ (HE.out.on HB.out)).mono ?_
  clear KD
  rintro e w9 ⟨rfl, hb1⟩
  have HT1 := Lib.hid (HT1.out.below hb1 hz78)
  have HT2 := Lib.hid (HT2.out.below hb1 (Nat.le_refl _))
  have HX := Lib.hid (HX.out.below hb1)
  have HY := Lib.hid (HY.out.below hb1)
  have HB := Lib.hid (HB.out.trans (hb1.mono HB.out.size))
  clear hb1
  have d0 := HX.out.1.c 0 _ rfl
  have d1 := HX.out.1.c 1 _ rfl
  have d2 := HX.out.1.c 2 _ rfl
  have e0 := HY.out.1.c 0 _ rfl
  have e1 := HY.out.1.c 1 _ rfl
  have e2 := HY.out.1.c 2 _ rfl
  go_wp2_with fail
  clear d0 d1 d2 e0 e1 e2
  refine (sameT_any _ _ A1 A2 ts.length k1 ts.length k2 ts _ HT1.out HT2.out (by have := hts.out; omega)).mono ?_
  rintro e w10 ⟨rfl, hb1⟩
  have HB := Lib.hid (HB.out.trans (hb1.mono HB.out.size))
  clear hb1 HT1 HT2 HX HY
  go_wp2_with fail
  -- Fan
  refine (KN'.out _ HB.out).mono ?_
  clear KN'
  rintro e w11 ⟨A3, k3, rfl, hown, hb1⟩
  have HB := Lib.hid (HB.out.trans (hb1.mono HB.out.size))
  have HT1 : Hid (Tris w11 w11.heap.size A3 FS.length FS) := Lib.hid ⟨Rd.of_own hown, by have := hfan.out; omega⟩
  clear hb1 hown
  go_wp2_with fail
  refine (KNr'.out _ HB.out).mono ?_
  clear KNr'
  rintro e w12 ⟨A4, k4, rfl, hown, hb1⟩
  have HT1 := Lib.hid (HT1.out.below hb1 (Nat.le_refl _))
  have HB := Lib.hid (HB.out.trans (hb1.mono HB.out.size))
  have HT2 : Hid (Tris w12 w12.heap.size A4 FS.length FS) := Lib.hid ⟨Rd.of_own hown, by have := hfan.out; omega⟩
  clear hb1 hown
  go_wp2_with fail
  refine (sameT_any _ _ A3 A4 FS.length k3 FS.length k4 FS _ HT1.out HT2.out (by have := hfan.out; omega)).mono ?_
  rintro e w13 ⟨rfl, hb1⟩
  have HB := Lib.hid (HB.out.trans (hb1.mono HB.out.size))
  clear hb1 HT1 HT2
  go_wp2_with fail
  go_ret
  exact ⟨rfl, HB.out⟩
theorem facedoes_row (B B6 : Nat) (s : ByteArray) (m c : P3) (A A6 : Option Addr) (n cA n6 c6 : Nat) (ls : List (List UInt8)) (cs : List P3) (w : World) (hl : s.size ≤ maxLen) (hm : m.bd) (hc : c.bd)
    (h : Strs w B A n ls) (hB : B ≤ w.heap.size) (hs : ∀ l ∈ ls, l.length ≤ 9223372036854775807) (h6 : Cors w B6 A6 n6 cs) (hB6 : B6 ≤ w.heap.size) (hE : Env w) :
    Calls Tryd.prog 10 #[.string s, .int .i64 m.a, .int .i64 m.b, .int .i64 m.c, p3V c, .slice A n cA, .slice A6 n6 c6] w fun e w' => e = .returned (.bool true) ∧ Below w.heap.size w w' := by
  have h := facedoes_any B B6 s.data.toList m c A A6 n cA n6 c6 ls cs w (by unfold maxLen at hl; have e := Lib.size_eq s; omega) hm hc h hB hs h6 hB6 hE
  rw [Lib.mk_data] at h
  exact h
end Go.Proofs.YtkdffcoofijhkaaDoor
