/-
  THE LAW WideMakes.
-/
import Derived.Test.YtcllghcplphijaaDoorWideLawE
import Derived.Test.YtcllghcplphijaaDoorWideRefG
import Derived.Deep.DeepCutAuto
set_option linter.unusedVariables false
set_option linter.unusedSimpArgs false
set_option maxRecDepth 8000
namespace Go.Proofs.YtcllghcplphijaaDoor
open Go.RowKit

theorem size_wide : (Tryd.prog.info? 23).map (fun i => (i.zero, i.size, i.bytes)) = some (some (.agg #[.int .i64 0, .int .i64 0]), 2, 16) := by kernel_rfl
theorem Pts.of_own {w : World} {base : Nat} {t : TypeId} {A : Option Addr} {n c : Nat} {l : List Pt} (h : w.ownsRow base t 2 (.slice A n c) n (cellsP l)) (hb : ∀ r ∈ l, r.b) (hn : n ≤ 9223372036854775807) : Pts w w.heap.size A n l := ⟨Rd.of_own h, hb, hn⟩
theorem makes_big (A : Option Addr) (n c : Nat) (a b : Int) (w : World) (hn : 30 < n) (hm : n ≤ 9223372036854775807) : Calls Tryd.prog 5 #[.int .i64 a, .int .i64 b, .slice A n c] w (fun e w' => e = .returned (.bool true) ∧ Below w.heap.size w w') := by
  have d1 : decide ((30 : Int) < (n : Int)) = true := decide_eq_true (by omega)
  go_enter Tryd.func5, Tryd.ntmps5
  go_wp2_with fail
  go_ret
  exact ⟨rfl, Below.refl _ _⟩

attribute [local go_sem ↓] Go.wp_at_zero Go.wp_at_succ
set_option maxHeartbeats 6400000 in
theorem makes_small (A : Option Addr) (n c : Nat) (l : List Pt) (a b : Int) (w : World) (hP : Pts w w.heap.size A n l) (hn : n ≤ 30) (ha : i64b a) (hb : i64b b) (hT : TabB w) : Calls Tryd.prog 5 #[.int .i64 a, .int .i64 b, .slice A n c] w (fun e w' => e = .returned (.bool true) ∧ Below w.heap.size w w') := by
  obtain ⟨i0, hi0, hz0, hz1, hz2⟩ := info_parts size_wide
  have d1 : decide ((30 : Int) < (n : Int)) = false := decide_eq_false (by omega)
  have K1 := Lib.hid (fun W => wmul_any a b W ha hb)
  have K2 := Lib.hid (fun W => rmul_any a b W)
  have K3 := Lib.hid (fun W A n c (h : Pts W W.heap.size A n l) => wadd_any A n c l W h)
  have K4 := Lib.hid (fun W A n c (h : Pts W W.heap.size A n l) => radd_any A n c l W h)
  have K5 := Lib.hid (fun W => of_any a W ha)
  have K6 := Lib.hid (fun W => rof_any a W ha)
  have T1 := Lib.hid (fun W hW => widened_any W hW)
  obtain ⟨⟨⟨c1, c2⟩, ce⟩, h1⟩ : ∃ r, wMul a b = r := ⟨_, rfl⟩
  obtain ⟨⟨⟨x1, x2⟩, xe⟩, h2⟩ : ∃ r, wAdd l = r := ⟨_, rfl⟩
  obtain ⟨⟨o1, o2⟩, h3⟩ : ∃ r, wOf a = r := ⟨_, rfl⟩
  rw [h1] at K1 K2
  rw [h2] at K3 K4
  rw [h3] at K5 K6
  unfold PE ptV at *
  simp only at K1 K2 K3 K4 K5 K6
  have HTB := Lib.hid hT; clear hT h1 h2 h3 ha hb
  have hl := Lib.hid hP.length
  go_enter Tryd.func5, Tryd.ntmps5
  go_upto_region 4 with fail
  go_cut [7] (fun s7 wx => ∃ A' c', s7 = .slice A' n c' ∧ Hid (Pts wx wx.heap.size A' n l) ∧ Below w.heap.size w wx)
  case first =>
    rcases Nat.eq_zero_or_pos n with rfl | h0
    · have e : l = [] := List.length_eq_zero_iff.1 hl.out
      cases A
      all_goals
        go_wp2_with fail
        go_meet
        exact ⟨none, 0, rfl, Lib.hid (by rw [e]; exact ⟨Rd.nil, fun x hx => by simp at hx, by omega⟩), Below.refl _ _⟩
    · have hl2 := hP.rd.1
      obtain ⟨ad, rfl, hbl, hc⟩ := hP.rd.2 (by omega)
      have hone := cellsP_one l
      go_wp2_with (at_builtin; refine wpList_append_lies _ rfl (.tmp 24) (.tmp 25) _ rfl w.heap.size 23 i0 _ 2 16 Tryd.underlying36 hi0 hz0 hz1 hz2 rfl (by decide) _ 0 [] rfl (World.ownsRow_nil _ _ _ _) ad n c (cellsP l) rfl hl2 hc hone h0 (by unfold maxLen; omega) (by omega) (Nat.le_refl _) _ rfl ?_; intro g4 cap4 w4 hown4 hgr4 hat4 hlt4)
      simp only [Nat.zero_add, List.nil_append] at hown4
      go_meet
      exact ⟨some ⟨g4, 0, none⟩, cap4, by simp, Lib.hid (Pts.of_own hown4 hP.b (by omega)), (Below.refl _ _).grown hgr4 (Nat.le_refl _) (fun k hk => by cases hk)⟩
  case rest =>
    obtain ⟨A', c', rfl, HO, hbo⟩ := hcut
    have hz0w : w.heap.size ≤ wc.heap.size := hbo.size
    obtain ⟨Bo, hBo⟩ : ∃ B, B = wc.heap.size := ⟨_, rfl⟩
    have hBo1 : w.heap.size ≤ Bo := by omega
    have hBo2 : Bo ≤ wc.heap.size := by omega
    have HPa := Lib.hid ((hP.below hbo (Nat.le_refl _)).more hBo1)
    have HPo : Hid (Pts wc Bo A' n l) := Lib.hid (by rw [hBo]; exact HO.out)
    have HB := Lib.hid hbo; clear hbo HO hBo hP
    go_wp2_with fail
    refine (K1.out _).mono ?_
    clear K1
    rintro e w1 ⟨rfl, bb⟩
    have HPa := Lib.hid (HPa.out.below bb (by omega))
    have HPo := Lib.hid (HPo.out.below bb (by omega))
    have HB := Lib.hid (HB.out.trans (bb.mono HB.out.size))
    have hzw1 := bb.size
    clear bb
    obtain ⟨s1, hb1, hz1⟩ := one_slot w1 [.int .i64 c1, .int .i64 c2] #[.int .i64 c1, .int .i64 c2] 23 rfl
    go_wp2_with fail
    generalize w1.alloc (.cells #[.int .i64 c1, .int .i64 c2] 23) = V2 at s1 hb1 hz1 ⊢
    have HPa := Lib.hid (HPa.out.below hb1 (by omega))
    have HPo := Lib.hid (HPo.out.below hb1 (by omega))
    have Hc := Lib.hid s1
    have HB := Lib.hid (HB.out.trans (hb1.mono HB.out.size))
    clear s1 hb1
    have hzV2 := hz1; clear hz1
    refine (K2.out _).mono ?_
    clear K2
    rintro e w3 ⟨rfl, bb⟩
    have Hc := Lib.hid (Hc.out.below bb (by omega))
    have HPa := Lib.hid (HPa.out.below bb (by omega))
    have HPo := Lib.hid (HPo.out.below bb (by omega))
    have HB := Lib.hid (HB.out.trans (bb.mono HB.out.size))
    have hzw3 := bb.size
    clear bb
    obtain ⟨s1, hb1, hz1⟩ := one_slot w3 [.int .i64 c1, .int .i64 c2] #[.int .i64 c1, .int .i64 c2] 23 rfl
    go_wp2_with fail
    generalize w3.alloc (.cells #[.int .i64 c1, .int .i64 c2] 23) = V4 at s1 hb1 hz1 ⊢
    have Hc := Lib.hid (Hc.out.below hb1 (by omega))
    have HPa := Lib.hid (HPa.out.below hb1 (by omega))
    have HPo := Lib.hid (HPo.out.below hb1 (by omega))
    have Hd := Lib.hid s1
    have HB := Lib.hid (HB.out.trans (hb1.mono HB.out.size))
    clear s1 hb1
    have hzV4 := hz1; clear hz1
    refine (K3.out _ _ _ _ (HPa.out.more (by omega))).mono ?_
    clear K3
    rintro e w5 ⟨rfl, bb⟩
    have Hc := Lib.hid (Hc.out.below bb (by omega))
    have Hd := Lib.hid (Hd.out.below bb (by omega))
    have HPa := Lib.hid (HPa.out.below bb (by omega))
    have HPo := Lib.hid (HPo.out.below bb (by omega))
    have HB := Lib.hid (HB.out.trans (bb.mono HB.out.size))
    have hzw5 := bb.size
    clear bb
    obtain ⟨s1, hb1, hz1⟩ := one_slot w5 [.int .i64 x1, .int .i64 x2] #[.int .i64 x1, .int .i64 x2] 23 rfl
    go_wp2_with fail
    generalize w5.alloc (.cells #[.int .i64 x1, .int .i64 x2] 23) = V6 at s1 hb1 hz1 ⊢
    have Hc := Lib.hid (Hc.out.below hb1 (by omega))
    have Hd := Lib.hid (Hd.out.below hb1 (by omega))
    have HPa := Lib.hid (HPa.out.below hb1 (by omega))
    have HPo := Lib.hid (HPo.out.below hb1 (by omega))
    have Hx := Lib.hid s1
    have HB := Lib.hid (HB.out.trans (hb1.mono HB.out.size))
    clear s1 hb1
    have hzV6 := hz1; clear hz1
    refine (K4.out _ _ _ _ (HPo.out.more (by omega))).mono ?_
    clear K4
    rintro e w7 ⟨rfl, bb⟩
    have Hc := Lib.hid (Hc.out.below bb (by omega))
    have Hd := Lib.hid (Hd.out.below bb (by omega))
    have Hx := Lib.hid (Hx.out.below bb (by omega))
    have HPa := Lib.hid (HPa.out.below bb (by omega))
    have HPo := Lib.hid (HPo.out.below bb (by omega))
    have HB := Lib.hid (HB.out.trans (bb.mono HB.out.size))
    have hzw7 := bb.size
    clear bb
    obtain ⟨s1, hb1, hz1⟩ := one_slot w7 [.int .i64 x1, .int .i64 x2] #[.int .i64 x1, .int .i64 x2] 23 rfl
    go_wp2_with fail
    generalize w7.alloc (.cells #[.int .i64 x1, .int .i64 x2] 23) = V8 at s1 hb1 hz1 ⊢
    have Hc := Lib.hid (Hc.out.below hb1 (by omega))
    have Hd := Lib.hid (Hd.out.below hb1 (by omega))
    have Hx := Lib.hid (Hx.out.below hb1 (by omega))
    have HPa := Lib.hid (HPa.out.below hb1 (by omega))
    have HPo := Lib.hid (HPo.out.below hb1 (by omega))
    have Hy := Lib.hid s1
    have HB := Lib.hid (HB.out.trans (hb1.mono HB.out.size))
    clear s1 hb1
    have hzV8 := hz1; clear hz1
    go_loopw [16] (fun i wr => ∃ k : Nat, k ≤ n ∧ i = .int .i64 k ∧ Hid (SlotN wr (w1.heap.size) [.int .i64 c1, .int .i64 c2]) ∧ Hid (SlotN wr (w3.heap.size) [.int .i64 c1, .int .i64 c2]) ∧ Hid (SlotN wr (w5.heap.size) [.int .i64 x1, .int .i64 x2]) ∧ Hid (SlotN wr (w7.heap.size) [.int .i64 x1, .int .i64 x2]) ∧ Hid (Pts wr Bo A n l) ∧ Hid (Pts wr Bo A' n l) ∧ Below w.heap.size w wr ∧ V8.heap.size ≤ wr.heap.size) (fun i _ => n - (intOf i).toNat)
    case atStart => exact ⟨0, by omega, rfl, Hc, Hd, Hx, Hy, HPa, HPo, HB.out, Nat.le_refl _⟩
    case round =>
      clear Hc Hd Hx Hy HPa HPo HB
      obtain ⟨k, hk, rfl, Hc, Hd, Hx, Hy, HPa, HPo, hbr, hzr⟩ := hrel
      have HB := Lib.hid hbr; clear hbr
      by_cases hlt : k < n
      · have t0 : decide ((k : Int) < (n : Int)) = true := decide_eq_true (by omega)
        obtain ⟨ad, p, rfl, hbl, hx, hm, hpb, hc0, hc1⟩ := HPa.out.get hlt
        obtain ⟨ad2, p2, rfl, hbl2, hx2, hm2, _, hd0, hd1⟩ := HPo.out.get hlt
        obtain rfl : p = p2 := by rw [hx] at hx2; injection hx2
        have hpb2 := Lib.hid hpb
        have N1 := Lib.hid (fun W => wneg_any p W hpb2.out)
        have N2 := Lib.hid (fun W => rneg_any p W hpb2.out)
        have I1 := Lib.hid (fun W => is_any p W hpb2.out)
        have I2 := Lib.hid (fun W => ris_any p W hpb2.out)
        obtain ⟨⟨⟨g1, g2⟩, ge⟩, hg⟩ : ∃ r, wNeg p = r := ⟨_, rfl⟩
        obtain ⟨is, hi⟩ : ∃ r, wIs p = r := ⟨_, rfl⟩
        rw [hg] at N1 N2
        rw [hi] at I1 I2
        obtain ⟨p1, p2⟩ := p
        unfold PE ptV at *
        simp only at N1 N2 I1 I2 hc0 hc1 hd0 hd1
        have hE1 : (ad.add (k * 2)).block < Bo := by rw [addr_block]; exact hbl
        have hE2 : (ad2.add (k * 2)).block < Bo := by rw [addr_block]; exact hbl2
        have HE := Lib.hid (⟨hc0, hc1, hd0, hd1⟩ : _ ∧ _ ∧ _ ∧ _)
        clear hx hm hpb hx2 hm2 hg hi hd0 hd1 hpb2
        go_wp2_with fail
        clear hc0 hc1
        refine (N1.out _).mono ?_
        clear N1
        rintro e w9 ⟨rfl, bb⟩
        have Hc := Lib.hid (Hc.out.below bb (by omega))
        have Hd := Lib.hid (Hd.out.below bb (by omega))
        have Hx := Lib.hid (Hx.out.below bb (by omega))
        have Hy := Lib.hid (Hy.out.below bb (by omega))
        have HPa := Lib.hid (HPa.out.below bb (by omega))
        have HPo := Lib.hid (HPo.out.below bb (by omega))
        have HE := Lib.hid (keep4 HE.out ⟨by omega, by dsimp only; omega, by omega, by dsimp only; omega⟩ bb)
        have HB := Lib.hid (HB.out.trans (bb.mono HB.out.size))
        have hzw9 := bb.size
        clear bb
        obtain ⟨s1, hb1, hz1⟩ := one_slot w9 [.int .i64 g1, .int .i64 g2] #[.int .i64 g1, .int .i64 g2] 23 rfl
        obtain ⟨hc0, hc1, hd0, hd1⟩ := HE.out
        have lo1 : (ad2.add (k * 2)).block < w9.heap.size := by omega
        go_wp2_with fail
        clear hc0 hc1 hd0 hd1
        generalize w9.alloc (.cells #[.int .i64 g1, .int .i64 g2] 23) = V10 at s1 hb1 hz1 ⊢
        have Hc := Lib.hid (Hc.out.below hb1 (by omega))
        have Hd := Lib.hid (Hd.out.below hb1 (by omega))
        have Hx := Lib.hid (Hx.out.below hb1 (by omega))
        have Hy := Lib.hid (Hy.out.below hb1 (by omega))
        have HPa := Lib.hid (HPa.out.below hb1 (by omega))
        have HPo := Lib.hid (HPo.out.below hb1 (by omega))
        have HE := Lib.hid (keep4 HE.out ⟨by omega, by dsimp only; omega, by omega, by dsimp only; omega⟩ hb1)
        have Hu := Lib.hid s1
        have HB := Lib.hid (HB.out.trans (hb1.mono HB.out.size))
        clear s1 hb1
        have hzV10 := hz1; clear hz1
        refine (N2.out _).mono ?_
        clear N2
        rintro e w11 ⟨rfl, bb⟩
        have Hc := Lib.hid (Hc.out.below bb (by omega))
        have Hd := Lib.hid (Hd.out.below bb (by omega))
        have Hx := Lib.hid (Hx.out.below bb (by omega))
        have Hy := Lib.hid (Hy.out.below bb (by omega))
        have Hu := Lib.hid (Hu.out.below bb (by omega))
        have HPa := Lib.hid (HPa.out.below bb (by omega))
        have HPo := Lib.hid (HPo.out.below bb (by omega))
        have HE := Lib.hid (keep4 HE.out ⟨by omega, by dsimp only; omega, by omega, by dsimp only; omega⟩ bb)
        have HB := Lib.hid (HB.out.trans (bb.mono HB.out.size))
        have hzw11 := bb.size
        clear bb
        obtain ⟨s1, hb1, hz1⟩ := one_slot w11 [.int .i64 g1, .int .i64 g2] #[.int .i64 g1, .int .i64 g2] 23 rfl
        go_upto_region 14 with fail
        generalize w11.alloc (.cells #[.int .i64 g1, .int .i64 g2] 23) = V12 at s1 hb1 hz1 ⊢
        have Hc := Lib.hid (Hc.out.below hb1 (by omega))
        have Hd := Lib.hid (Hd.out.below hb1 (by omega))
        have Hx := Lib.hid (Hx.out.below hb1 (by omega))
        have Hy := Lib.hid (Hy.out.below hb1 (by omega))
        have Hu := Lib.hid (Hu.out.below hb1 (by omega))
        have HPa := Lib.hid (HPa.out.below hb1 (by omega))
        have HPo := Lib.hid (HPo.out.below hb1 (by omega))
        have HE := Lib.hid (keep4 HE.out ⟨by omega, by dsimp only; omega, by omega, by dsimp only; omega⟩ hb1)
        have Hv := Lib.hid s1
        have HB := Lib.hid (HB.out.trans (hb1.mono HB.out.size))
        clear s1 hb1
        have hzV12 := hz1; clear hz1
        obtain ⟨hc0, hc1, hd0, hd1⟩ := HE.out
        have lu : w9.heap.size < V12.heap.size := by omega
        have cu0 := Hu.out.c 0 _ rfl
        have cu1 := Hu.out.c 1 _ rfl
        have lv : w11.heap.size < V12.heap.size := by omega
        have cv0 := Hv.out.c 0 _ rfl
        have cv1 := Hv.out.c 1 _ rfl
        have lv1 : (ad.add (k * 2)).block < V12.heap.size := by omega
        have lv2 : (ad2.add (k * 2)).block < V12.heap.size := by omega
        have k0 : (0 : Int) ≤ (k : Int) := by omega
        have k1 : (k : Int) < (n : Int) := by omega
        try simp only [List.append]
        go_region_held3 (fun w' => w'.cell? ⟨w9.heap.size, 0, none⟩ = some (.int .i64 g1) ∧ w'.cell? ⟨w9.heap.size, 1, none⟩ = some (.int .i64 g2) ∧ w'.cell? ⟨w11.heap.size, 0, none⟩ = some (.int .i64 g1) ∧ w'.cell? ⟨w11.heap.size, 1, none⟩ = some (.int .i64 g2) ∧ w'.cell? (ad.add (k * 2)) = some (.int .i64 p1) ∧ w'.cell? ⟨(ad.add (k * 2)).block, (ad.add (k * 2)).off + 1, none⟩ = some (.int .i64 p2) ∧ w'.cell? (ad2.add (k * 2)) = some (.int .i64 p1) ∧ w'.cell? ⟨(ad2.add (k * 2)).block, (ad2.add (k * 2)).off + 1, none⟩ = some (.int .i64 p2))
          (refine ⟨?_, ?_, ?_, ?_, ?_, ?_, ?_, ?_⟩ <;> (first | with_reducible assumption | (rw [hby.cell (by (try dsimp only); omega)]; with_reducible assumption) | (rw [World.cell?_drew]; with_reducible assumption) | (go_keep; done)))
          (first
            | (go_at_call 19; refine (I1.out _).mono ?_; clear I1; rintro e wx ⟨rfl, hbx⟩; have hby : Below V12.heap.size V12 wx := (Below.refl _ V12).drew.trans (hbx.mono (by simp)))
            | (go_at_call 26; refine (I2.out _).mono ?_; clear I2; rintro e wx ⟨rfl, hbx⟩; have hby : Below V12.heap.size V12 wx := hby.trans (hbx.mono hby.size)))
        clear cu0 cu1 cv0 cv1
        clear hc0 hc1 hd0 hd1
        have Hc := Lib.hid (Hc.out.below hby (by omega))
        have Hd := Lib.hid (Hd.out.below hby (by omega))
        have Hx := Lib.hid (Hx.out.below hby (by omega))
        have Hy := Lib.hid (Hy.out.below hby (by omega))
        have HPa := Lib.hid (HPa.out.below hby (by omega))
        have HPo := Lib.hid (HPo.out.below hby (by omega))
        have HB := Lib.hid (HB.out.trans (hby.mono HB.out.size))
        have hzx := hby.size
        clear hby
        go_wp2_with fail
        go_roundw
        case rel => exact ⟨k + 1, by omega, by go_num, Hc, Hd, Hx, Hy, HPa, HPo, HB.out, by omega⟩
        case measure => simp only [intOf]; omega
      · have t0 : decide ((k : Int) < (n : Int)) = false := decide_eq_false (by omega)
        clear HPa HPo
        go_wp2_with fail
        refine (T1.out wr (HTB.out.on HB.out)).mono ?_
        clear T1
        rintro e w9 ⟨rfl, bb⟩
        have Hc := Lib.hid (Hc.out.below bb (by omega))
        have Hd := Lib.hid (Hd.out.below bb (by omega))
        have Hx := Lib.hid (Hx.out.below bb (by omega))
        have Hy := Lib.hid (Hy.out.below bb (by omega))
        have HB := Lib.hid (HB.out.trans (bb.mono HB.out.size))
        have hzw9 := bb.size
        clear bb
        have lc : w1.heap.size < w9.heap.size := by omega
        have cc0 := Hc.out.c 0 _ rfl
        have cc1 := Hc.out.c 1 _ rfl
        have ld : w3.heap.size < w9.heap.size := by omega
        have cd0 := Hd.out.c 0 _ rfl
        have cd1 := Hd.out.c 1 _ rfl
        have lx : w5.heap.size < w9.heap.size := by omega
        have cx0 := Hx.out.c 0 _ rfl
        have cx1 := Hx.out.c 1 _ rfl
        have ly : w7.heap.size < w9.heap.size := by omega
        have cy0 := Hy.out.c 0 _ rfl
        have cy1 := Hy.out.c 1 _ rfl
        go_wp2_with fail
        clear cc0 cc1 cd0 cd1 cx0 cx1 cy0 cy1
        refine (K5.out _).mono ?_
        clear K5
        rintro e w10 ⟨rfl, bb⟩
        have Hc := Lib.hid (Hc.out.below bb (by omega))
        have Hd := Lib.hid (Hd.out.below bb (by omega))
        have Hx := Lib.hid (Hx.out.below bb (by omega))
        have Hy := Lib.hid (Hy.out.below bb (by omega))
        have HB := Lib.hid (HB.out.trans (bb.mono HB.out.size))
        have hzw10 := bb.size
        clear bb
        go_wp2_with fail
        refine (K6.out _).mono ?_
        clear K6
        rintro e w11 ⟨rfl, bb⟩
        have Hc := Lib.hid (Hc.out.below bb (by omega))
        have Hd := Lib.hid (Hd.out.below bb (by omega))
        have Hx := Lib.hid (Hx.out.below bb (by omega))
        have Hy := Lib.hid (Hy.out.below bb (by omega))
        have HB := Lib.hid (HB.out.trans (bb.mono HB.out.size))
        have hzw11 := bb.size
        clear bb
        go_wp2_with fail
        go_ret
        exact ⟨rfl, HB.out⟩

theorem widemakes_any (A : Option Addr) (n c : Nat) (l : List Pt) (a b : Int) (w : World) (hP : Pts w w.heap.size A n l) (ha : i64b a) (hb : i64b b) (hT : TabB w) : Calls Tryd.prog 5 #[.int .i64 a, .int .i64 b, .slice A n c] w (fun e w' => e = .returned (.bool true) ∧ Below w.heap.size w w') := by
  rcases Nat.lt_or_ge 30 n with h | h
  · exact makes_big A n c a b w h hP.len
  · exact makes_small A n c l a b w hP h ha hb hT
end Go.Proofs.YtcllghcplphijaaDoor
