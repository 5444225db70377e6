/-
  THE LAW FaceEach, joined.
-/
import Derived.Test.YtkdffcoofijhkaaDoorFaceLawD
import Derived.BigQuiet
set_option linter.unusedVariables false
set_option linter.unusedSimpArgs false
set_option maxRecDepth 100000
namespace Go.Proofs.YtkdffcoofijhkaaDoor
open Go.RowKit

set_option maxHeartbeats 12800000 in
theorem each_any (B : Nat) (A : Option Addr) (n c : Nat) (m : P3) (ls : List (List UInt8)) (w : World) (h : Strs w B A n ls) (hB : B ≤ w.heap.size) (hs : ∀ l ∈ ls, l.length ≤ 9223372036854775807) (hm : m.bd) (hE : Env w) :
    Calls Tryd.prog 4 #[.int .i64 m.a, .int .i64 m.b, .int .i64 m.c, .slice A n c] w (Yes w) := by
  have K0 := Lib.hid (far7_any B A n c ls w h hs)
  have K4 := Lib.hid (fun W hW => faced_any W hW)
  have K1 := Lib.hid (fun hn hl => face_any B A n c m ls w h hB hn hl hm hE)
  have K2 := Lib.hid (fun l W hl hW => corner_any l m W hl hW hm)
  have hlen := Lib.hid h.length
  have hv := face_val m ls
  have H := Lib.hid h
  have HE := Lib.hid hE
  obtain ⟨f, hf⟩ : ∃ f, f = fun l => cornerR l m := ⟨_, rfl⟩
  have K2' : Hid (∀ l W, l.length ≤ 100000 → Env W → Calls Tryd.prog 17 #[.string ⟨l.toArray⟩, .int .i64 m.a, .int .i64 m.b, .int .i64 m.c] W (CornerRes (f l) W)) := by rw [hf]; exact K2
  obtain ⟨d, hd⟩ : ∃ d, d = decide (3 ≤ n) := ⟨_, rfl⟩
  have HG : Hid (goodS m ls = (d && ls.all fun l => (f l).2 == 0)) := Lib.hid (by rw [hf, hd]; unfold goodS; rw [hlen.out])
  have d1 : decide (3 ≤ n) = d := hd.symm
  have d2 : decide ((3 : Int) ≤ (n : Int)) = d := by rw [hd]; exact decide_eq_decide.2 ⟨fun h => by omega, fun h => by omega⟩
  clear hd
  generalize goodS m ls = G at hv HG
  generalize faceR m ls = R at hv K1
  have hv2 : (R.2 = 0 ∧ G = true ∧ R.1.length + 2 = ls.length ∧ ∀ t ∈ R.1, ∃ t0, R.1[0]? = some t0 ∧ fitC m t0.p t.p ∧ fitC m t0.p t.q ∧ fitC m t0.p t.r) ∨ (R.1 = [] ∧ (R.2 = 6 ∨ R.2 = 7 ∧ G = false)) := hv
  have HV := Lib.hid hv2
  clear hv hv2 hf K2 h hE hs
  obtain ⟨ts, er⟩ := R
  obtain ⟨m0, m1, m2⟩ := m
  unfold Yes FaceRes ListRes CornerRes p3V at *
  simp only at HV K1 K2'
  simp only
  go_enter Tryd.func4, Tryd.ntmps4
  go_wp2_with fail
  refine K0.out.mono ?_
  clear K0
  rintro e w0 ⟨b, rfl, hw0, hfar⟩
  subst hw0
  cases b with
  | true =>
    go_wp2_with fail
    go_ret
    exact ⟨rfl, Below.refl _ _⟩
  | false =>
    obtain ⟨hn30, hl⟩ := hfar rfl
    clear hfar
    have HL := Lib.hid hl
    have K1' := Lib.hid (K1.out (by omega) (fun l hx => by have := hl l hx; omega))
    clear K1 hl
    go_wp2_with fail
    refine K1'.out.mono ?_
    clear K1'
    rintro e w1 ⟨A', c', rfl, hown, hb1⟩
    have HB := Lib.hid hb1
    have HC := Lib.hid (H.out.below hb1 hB)
    have hBw : B ≤ w1.heap.size := by have := hb1.size; omega
    obtain ⟨N, hN⟩ : ∃ N, N = ts.length := ⟨_, rfl⟩
    have HT : Hid (N ≤ 9223372036854775807 → Tris w1 w1.heap.size A' N ts) := Lib.hid (fun h9 => ⟨by rw [hN]; exact Rd.of_own hown, h9⟩)
    have HN := Lib.hid hN
    rw [← hN]
    clear hN hown hb1 H
    go_wp2_with fail
    go_loopw [11, 12] (fun g i wr => ∃ (k : Nat) (gb : Bool), k ≤ n ∧ i = .int .i64 (k : Int) ∧ g = .bool gb ∧ Hid (gb = (d && (ls.take k).all fun l => (f l).2 == 0)) ∧ Below w1.heap.size w1 wr) (fun _ i _ => n - (intOf i).toNat)
    case atStart => exact ⟨0, d, by omega, rfl, rfl, Lib.hid (by simp), Below.refl _ _⟩
    case round =>
      obtain ⟨k, gb, hk, rfl, rfl, hgb, hbr⟩ := hrel
      have HBR := Lib.hid hbr
      have hBr := hbr.size
      by_cases hlt : k < n
      · have t1 : decide ((k : Int) < (n : Int)) = true := decide_eq_true (by omega)
        obtain ⟨ad, l, rfl, hbk, hx, hmx, hc⟩ := (HC.out.below hbr hBw).get hlt
        have hll := HL.out l hmx
        have K := Lib.hid (fun W hW => K2'.out l W (by omega) hW)
        obtain ⟨⟨x, y, z⟩, e0, hfl⟩ : ∃ p e, f l = (p, e) := ⟨_, _, rfl⟩
        rw [hfl] at K
        simp only at K
        have HX : Hid (∀ g, (gb && e0 == 0) = g → g = (d && (ls.take (k + 1)).all fun l => (f l).2 == 0)) := Lib.hid (by
          rintro g rfl
          rw [take_snoc' _ _ _ hx, List.all_append, hgb.out]
          simp [hfl, Bool.and_assoc])
        clear hx hmx hll hfl hbr
        cases gb with
        | false =>
          go_wp2_with fail
          refine (K.out _ (HE.out.on (HB.out.trans (HBR.out.mono HB.out.size)))).mono ?_
          clear K
          rintro e w2 ⟨rfl, hb2⟩
          have HB2 := Lib.hid (HBR.out.trans (hb2.mono hBr)); clear hb2
          go_wp2_with fail
          go_roundw
          case rel => exact ⟨k + 1, _, by omega, by go_num, rfl, Lib.hid (HX.out _ rfl), HB2.out.alloc HB2.out.size _⟩
          case measure => simp only [intOf]; omega
        | true =>
          go_wp2_with fail
          refine (K.out _ (HE.out.on (HB.out.trans (HBR.out.mono HB.out.size)))).mono ?_
          clear K
          rintro e w2 ⟨rfl, hb2⟩
          have HB2 := Lib.hid (HBR.out.trans (hb2.mono hBr)); clear hb2
          go_wp2_with fail
          go_roundw
          case rel => exact ⟨k + 1, _, by omega, by go_num, rfl, Lib.hid (HX.out _ (by simp)), HB2.out.alloc HB2.out.size _⟩
          case measure => simp only [intOf]; omega
      · have t1 : decide ((k : Int) < (n : Int)) = false := decide_eq_false (by omega)
        obtain rfl : k = n := by omega
        have hGg : Hid (gb = G) := Lib.hid (by
          have := hgb.out
          rw [List.take_of_length_le (by rw [hlen.out]; omega), ← HG.out] at this
          exact this)
        have HBB := Lib.hid (HB.out.trans (HBR.out.mono HB.out.size))
        have HB0 := HBR
        clear t1 hgb HL K2' hlt HC hbr
        obtain ⟨wz, hwz⟩ : ∃ x, x = wr := ⟨_, rfl⟩
        subst hwz
        rcases HV.out with ⟨he0, hg1, hlen2, hfit⟩ | ⟨hts, her⟩
        · obtain rfl : er = 0 := he0
          have hgt : gb = true := by rw [hGg.out]; exact hg1
          subst hgt
          have HFIT := Lib.hid hfit
          have hNn : N + 2 = k := by have h1 := hlen.out; rw [HN.out]; omega
          have HT2 := Lib.hid ((HT.out (by omega)).below HBR.out (Nat.le_refl _))
          clear HV hg1 hlen2 hfit hGg HT
          have hNi : Hid (((N : Int) == (k : Int) - 2) = true) := Lib.hid (beq_iff_eq.2 (by omega))
          have hNk : Hid (N ≤ 30) := Lib.hid (by omega)
          clear hNn d1 d2
          go_wp2_with fail
          go_loopw [15] (fun i wx => ∃ k2 : Nat, k2 ≤ N ∧ i = .int .i64 (k2 : Int) ∧ Below wz.heap.size wz wx) (fun i _ => N - (intOf i).toNat)
          case atStart => exact ⟨0, by omega, rfl, Below.refl _ _⟩
          case round =>
            obtain ⟨i, hi, rfl, hbx⟩ := hrel
            by_cases hlt : i < N
            · have t1 : decide ((i : Int) < (N : Int)) = true := decide_eq_true (by omega)
              have HBX := Lib.hid hbx; clear hbx
              go_wp2_with fail
              go_loopw [16] (fun jv wy => ∃ j : Nat, j ≤ 3 ∧ jv = .int .i64 (j : Int) ∧ Below wz.heap.size wz wy) (fun jv _ => 3 - (intOf jv).toNat)
              case atStart => exact ⟨0, by omega, rfl, HBX.out⟩
              case round =>
                obtain ⟨j, hj, rfl, hby⟩ := hrel
                have HBY := Lib.hid hby
                have hyz := hby.size
                by_cases hj3 : j < 3
                · have t2 : decide ((j : Int) < 3) = true := decide_eq_true (by omega)
                  have hTy := HT2.out.below hby hBr
                  obtain ⟨ad, t, ⟨x, y, z⟩, rfl, hbk, hx, hor, p0, p1, p2⟩ := hTy.at3 hlt hj3
                  obtain ⟨ad0, ⟨⟨fx, fy, fz⟩, tq, tr⟩, e0, _, hx0, _, hc0⟩ := hTy.get (k := 0) (by omega)
                  obtain rfl : ad = ad0 := by injection e0
                  have q1 : wr.cell? ⟨ad.block, ad.off + 1, none⟩ = some (.int .i64 fy) := by rw [← addr_off _ (by omega)]; exact hc0 1 _ rfl
                  have q2 : wr.cell? ⟨ad.block, ad.off + 2, none⟩ = some (.int .i64 fz) := by rw [← addr_off _ (by omega)]; exact hc0 2 _ rfl
                  obtain ⟨t0, ht0, f1, f2, f3⟩ := HFIT.out t (List.mem_of_getElem? hx)
                  rw [hx0] at ht0
                  injection ht0 with ht0
                  subst ht0
                  have hfc : fitC ⟨m0, m1, m2⟩ ⟨fx, fy, fz⟩ ⟨x, y, z⟩ := by rcases hor with h | h | h <;> rw [h] <;> assumption
                  obtain ⟨⟨i0, i1, i2, i3, i4, i5⟩, hlk⟩ := hfc
                  simp only at i0 i1 i2 i3 i4 i5 p0 p1 p2
                  have u0 : decide (x < 0) = false := decide_eq_false (by omega)
                  have u1 : decide (m0 ≤ x) = false := decide_eq_false (by omega)
                  have u2 : decide (y < -1) = false := decide_eq_false (by omega)
                  have u3 : decide (z < -1) = false := decide_eq_false (by omega)
                  have cy : decide (m1 ≤ y) = false ∨ (decide (m1 ≤ y) = true ∧ decide (0 ≤ y) = false) := by
                    simp only [decide_eq_true_eq, decide_eq_false_iff_not]; omega
                  have cz : decide (m2 ≤ z) = false ∨ (decide (m2 ≤ z) = true ∧ decide (0 ≤ z) = false) := by
                    simp only [decide_eq_true_eq, decide_eq_false_iff_not]; omega
                  obtain ⟨sy, hsy⟩ : ∃ s, s = decide (y < 0) := ⟨_, rfl⟩
                  obtain ⟨sz, hsz⟩ : ∃ s, s = decide (z < 0) := ⟨_, rfl⟩
                  have hl2 : decide (fy < 0) = sy ∧ decide (fz < 0) = sz := by
                    unfold likeC at hlk
                    simp only [Bool.and_eq_true, beq_iff_eq] at hlk
                    exact ⟨by rw [hsy, hlk.1], by rw [hsz, hlk.2]⟩
                  obtain ⟨l1, l2⟩ := hl2
                  have hsy2 := hsy.symm
                  have hsz2 := hsz.symm
                  have bi : (i : Int) < (N : Int) := by omega
                  have bj : (j : Int) < 3 := by omega
                  have bN : 0 < N := by omega
                  have hj4 : j + 1 ≤ 3 := by omega
                  have hbw : ad.block < wr.heap.size := by omega
                  clear i0 i1 i2 i3 i4 i5 hlk hsy hsz f1 f2 f3 hor hx hx0 hc0 e0 hTy hby
                  rcases cy with v1 | ⟨v1, v2⟩ <;> rcases cz with v3 | ⟨v3, v4⟩
                  all_goals
                    have hsn := SlotN.new wr [.int .i64 x, .int .i64 y, .int .i64 z] #[.int .i64 x, .int .i64 y, .int .i64 z] 26 rfl
                    have hbn : Below wr.heap.size wr (wr.alloc (.cells #[.int .i64 x, .int .i64 y, .int .i64 z] 26)) := (Below.refl _ _).alloc (Nat.le_refl _) _
                    have d0 := hsn.c 0 _ rfl
                    have d1' := hsn.c 1 _ rfl
                    have d2' := hsn.c 2 _ rfl
                    have n1 := (hbn.cell (p := ⟨ad.block, ad.off + 1, none⟩) hbw).trans q1
                    have n2 := (hbn.cell (p := ⟨ad.block, ad.off + 2, none⟩) hbw).trans q2
                    have HBN := Lib.hid (HBY.out.trans (hbn.mono hyz))
                    clear hsn hbn
                    go_wp2_with fail
                    generalize wr.alloc (.cells #[.int .i64 x, .int .i64 y, .int .i64 z] 26) = V at *
                    clear p0 p1 p2 q1 q2
                    go_quiet (fail)
                    go_wp2_with fail
                    go_roundw
                    case rel => exact ⟨j + 1, hj4, by go_num, below_drewN HBN.out _⟩
                    case measure => simp only [intOf]; omega
                · have t2 : decide ((j : Int) < 3) = false := decide_eq_false (by omega)
                  have hN30 := hNk.out
                  go_wp2_with fail
                  go_roundw
                  case rel => exact ⟨i + 1, by omega, by go_num, HBY.out⟩
                  case measure => simp only [intOf]; omega
            · have t1 : decide ((i : Int) < (N : Int)) = false := decide_eq_false (by omega)
              have HBX := Lib.hid (HBB.out.trans (hbx.mono HBB.out.size)); clear hbx
              have tn := hNi.out
              go_wp2_with fail
              refine (K4.out _ (HE.out.on HBX.out)).mono ?_
              clear K4
              rintro e w2 ⟨rfl, hb2⟩
              have HB2 := Lib.hid (HBX.out.trans (hb2.mono HBX.out.size)); clear hb2
              go_wp2_with fail
              go_ret
              exact ⟨rfl, HB2.out⟩
        · obtain rfl : N = 0 := by rw [HN.out, hts]; rfl
          clear HT HV HN hts
          have her2 := her
          clear her
          rcases her2 with rfl | ⟨rfl, hg⟩
          · clear d1 d2
            go_wp2_with fail
            refine (K4.out _ (HE.out.on HBB.out)).mono ?_
            clear K4
            rintro e w2 ⟨rfl, hb2⟩
            have HB2 := Lib.hid (HBB.out.trans (hb2.mono HBB.out.size)); clear hb2
            go_wp2_with fail
            go_ret
            exact ⟨rfl, HB2.out⟩
          · have hgt : gb = false := by rw [hGg.out]; exact hg
            subst hgt
            clear d1 d2 hg hGg
            go_wp2_with fail
            refine (K4.out _ (HE.out.on HBB.out)).mono ?_
            clear K4
            rintro e w2 ⟨rfl, hb2⟩
            have HB2 := Lib.hid (HBB.out.trans (hb2.mono HBB.out.size)); clear hb2
            go_wp2_with fail
            go_ret
            exact ⟨rfl, HB2.out⟩
theorem each_row (B : Nat) (A : Option Addr) (n c : Nat) (m : P3) (ls : List (List UInt8)) (w : World) (h : Strs w B A n ls) (hB : B ≤ w.heap.size) (hs : ∀ l ∈ ls, l.length ≤ 9223372036854775807) (hm : m.bd) (hE : Env w) :
    Calls Tryd.prog 4 #[.int .i64 m.a, .int .i64 m.b, .int .i64 m.c, .slice A n c] w fun e w' => e = .returned (.bool true) ∧ Below w.heap.size w w' := each_any B A n c m ls w h hB hs hm hE
end Go.Proofs.YtkdffcoofijhkaaDoor
