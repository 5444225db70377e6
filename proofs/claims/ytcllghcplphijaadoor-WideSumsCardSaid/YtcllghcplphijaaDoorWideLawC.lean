/-
  THE LAW WideSums.
-/
import Derived.Test.YtcllghcplphijaaDoorWideLawB
import Derived.Deep.DeepCutAuto
set_option linter.unusedVariables false
set_option linter.unusedSimpArgs false
set_option maxRecDepth 8000
namespace Go.Proofs.YtcllghcplphijaaDoor
open Go.RowKit

set_option maxHeartbeats 3200000 in
theorem widesums_any (a b c : Pt) (w : World) (ha : a.b) (hb : b.b) (hc : c.b) (hT : TabB w) : Calls Tryd.prog 6 #[ptV a, ptV b, ptV c] w (fun e w' => e = .returned (.bool true) ∧ Below w.heap.size w w') := by
  have HAS := Lib.hid (fun h1 h2 h3 h4 => wAdd_assoc (a := a) (b := b) (c := c) h1 h2 h3 h4)
  have HNE := Lib.hid (fun h => wNeg_ok (a := a) h)
  have T1 := Lib.hid (fun W hW => widened_any W hW)
  have T2 := Lib.hid (fun W => of_any 0 W (by unfold i64b; omega))
  rw [show wOf 0 = ⟨0, 0⟩ by decide] at T2
  have KA := Lib.hid (fun W g hg => add2_any a b ha hb W g hg)
  have KD := Lib.hid (fun W g hg => add2_any b a hb ha W g hg)
  have KB := Lib.hid (fun W g hg => add2_any (wAdd [a, b]).1 c (wAdd_b a b) hc W g hg)
  have KC := Lib.hid (fun W g hg => add2_any b c hb hc W g hg)
  have KE := Lib.hid (fun W g hg => add2_any a (wAdd [b, c]).1 ha (wAdd_b b c) W g hg)
  have KF := Lib.hid (fun W => wneg_any a W ha)
  have KG := Lib.hid (fun W g hg => add2_any a (wNeg a).1 ha (wNeg_b a) W g hg)
  have KH := Lib.hid (fun W => wneg_any (wNeg a).1 W (wNeg_b a))
  rw [← wAdd_comm a b] at KD
  obtain ⟨⟨⟨x1, x2⟩, ee⟩, he⟩ : ∃ r, wAdd [a, b] = r := ⟨_, rfl⟩
  obtain ⟨⟨⟨y1, y2⟩, eg⟩, hg⟩ : ∃ r, wAdd [b, c] = r := ⟨_, rfl⟩
  obtain ⟨⟨⟨n1, n2⟩, ek⟩, hk⟩ : ∃ r, wNeg a = r := ⟨_, rfl⟩
  rw [he] at KA KB KD HAS
  rw [hg] at KC KE HAS
  rw [hk] at KF KG KH HNE
  simp only at KB KE KG KH HAS HNE
  obtain ⟨⟨⟨u1, u2⟩, ef⟩, hf⟩ : ∃ r, wAdd [⟨x1, x2⟩, c] = r := ⟨_, rfl⟩
  obtain ⟨⟨⟨v1, v2⟩, eh⟩, hh⟩ : ∃ r, wAdd [a, ⟨y1, y2⟩] = r := ⟨_, rfl⟩
  obtain ⟨⟨⟨o1, o2⟩, el⟩, hl⟩ : ∃ r, wAdd [a, ⟨n1, n2⟩] = r := ⟨_, rfl⟩
  obtain ⟨⟨⟨p1, p2⟩, em⟩, hm⟩ : ∃ r, wNeg ⟨n1, n2⟩ = r := ⟨_, rfl⟩
  rw [hf] at KB HAS
  rw [hh] at KE HAS
  rw [hl] at KG HNE
  rw [hm] at KH HNE
  clear he hg hk hf hh hl hm
  obtain ⟨a1, a2⟩ := a
  obtain ⟨b1, b2⟩ := b
  obtain ⟨c1, c2⟩ := c
  unfold PE ptV at *
  simp only at KA KB KC KD KE KF KG KH T2 HAS HNE
  have HTB := Lib.hid hT; clear hT ha hb hc
  obtain ⟨s1, s2, s3, hb0, hz0⟩ := three_slots w [.int .i64 a1, .int .i64 a2] [.int .i64 b1, .int .i64 b2] [.int .i64 c1, .int .i64 c2] #[.int .i64 a1, .int .i64 a2] #[.int .i64 b1, .int .i64 b2] #[.int .i64 c1, .int .i64 c2] 23 23 23 rfl rfl rfl
  go_enter Tryd.func6, Tryd.ntmps6
  go_wp2_with fail
  generalize ((w.alloc (.cells #[.int .i64 a1, .int .i64 a2] 23)).alloc (.cells #[.int .i64 b1, .int .i64 b2] 23)).alloc (.cells #[.int .i64 c1, .int .i64 c2] 23) = V0 at s1 s2 s3 hb0 hz0 ⊢
  have Ha := Lib.hid s1; have Hb := Lib.hid s2
  have Hc := Lib.hid s3
  clear s1 s2 s3
  have HB := Lib.hid hb0; clear hb0
  refine (KA.out V0 _ hz0).mono ?_
  rintro e w1 ⟨rfl, bb⟩
  have Ha := Lib.hid (Ha.out.below bb (by omega))
  have Hb := Lib.hid (Hb.out.below bb (by omega))
  have Hc := Lib.hid (Hc.out.below bb (by omega))
  have HB := Lib.hid (HB.out.trans (bb.mono HB.out.size))
  have hzw1 := bb.size
  clear bb
  obtain ⟨s1, hb1, hz1⟩ := one_slot w1 [.int .i64 x1, .int .i64 x2] #[.int .i64 x1, .int .i64 x2] 23 rfl
  have lc : w.heap.size + 1 + 1 < w1.heap.size := by omega
  have cc0 := Hc.out.c 0 _ rfl
  have cc1 := Hc.out.c 1 _ rfl
  go_wp2_with fail
  generalize w1.alloc (.cells #[.int .i64 x1, .int .i64 x2] 23) = V2 at s1 hb1 hz1 ⊢
  have Ha := Lib.hid (Ha.out.below hb1 (by omega))
  have Hb := Lib.hid (Hb.out.below hb1 (by omega))
  have Hc := Lib.hid (Hc.out.below hb1 (by omega))
  have Hx := Lib.hid s1
  have HB := Lib.hid (HB.out.trans (hb1.mono HB.out.size))
  clear s1 hb1
  have hzV2 := hz1; clear hz1
  clear cc0 cc1
  refine (KB.out V2 _ hzV2).mono ?_
  clear KB
  rintro e w3 ⟨rfl, bb⟩
  have Ha := Lib.hid (Ha.out.below bb (by omega))
  have Hb := Lib.hid (Hb.out.below bb (by omega))
  have Hc := Lib.hid (Hc.out.below bb (by omega))
  have Hx := Lib.hid (Hx.out.below bb (by omega))
  have HB := Lib.hid (HB.out.trans (bb.mono HB.out.size))
  have hzw3 := bb.size
  clear bb
  have lx : w1.heap.size < w3.heap.size := by omega
  have cx0 := Hx.out.c 0 _ rfl
  have cx1 := Hx.out.c 1 _ rfl
  have fx0 := Hx.out.f 0
  have fx1 := Hx.out.f 1
  have lb : w.heap.size + 1 < w3.heap.size := by omega
  have cb0 := Hb.out.c 0 _ rfl
  have cb1 := Hb.out.c 1 _ rfl
  have lc : w.heap.size + 1 + 1 < w3.heap.size := by omega
  have cc0 := Hc.out.c 0 _ rfl
  have cc1 := Hc.out.c 1 _ rfl
  go_wp2_with fail
  clear cx0 cx1 cb0 cb1 cc0 cc1 fx0 fx1
  have s2 := Hx.out.set2 (.int .i64 u1) (.int .i64 u2)
  have ga := (Ha.out.set_other ⟨w1.heap.size, 0, none⟩ (.int .i64 u1) (by simp only; omega)).set_other ⟨w1.heap.size, 1, none⟩ (.int .i64 u2) (by simp only; omega)
  have gb := (Hb.out.set_other ⟨w1.heap.size, 0, none⟩ (.int .i64 u1) (by simp only; omega)).set_other ⟨w1.heap.size, 1, none⟩ (.int .i64 u2) (by simp only; omega)
  have gc := (Hc.out.set_other ⟨w1.heap.size, 0, none⟩ (.int .i64 u1) (by simp only; omega)).set_other ⟨w1.heap.size, 1, none⟩ (.int .i64 u2) (by simp only; omega)
  have hb2 := (HB.out.setCell (p := ⟨w1.heap.size, 0, none⟩) (by simp only; omega) (.int .i64 u1)).setCell (p := ⟨w1.heap.size, 1, none⟩) (by simp only; omega) (.int .i64 u2)
  have hz2 : ((w3.setCell ⟨w1.heap.size, 0, none⟩ (.int .i64 u1)).setCell ⟨w1.heap.size, 1, none⟩ (.int .i64 u2)).heap.size = w3.heap.size := by simp
  generalize (w3.setCell ⟨w1.heap.size, 0, none⟩ (.int .i64 u1)).setCell ⟨w1.heap.size, 1, none⟩ (.int .i64 u2) = V4 at s2 hb2 hz2 ga gb gc ⊢
  clear Hx
  clear Ha
  have Ha := Lib.hid ga; clear ga
  clear Hb
  have Hb := Lib.hid gb; clear gb
  clear Hc
  have Hc := Lib.hid gc; clear gc
  have Hx := Lib.hid s2; clear s2
  have HB := Lib.hid hb2; clear hb2
  have hzV4 := hz2; clear hz2
  refine (KC.out V4 _ hzV4).mono ?_
  clear KC
  rintro e w5 ⟨rfl, bb⟩
  have Ha := Lib.hid (Ha.out.below bb (by omega))
  have Hb := Lib.hid (Hb.out.below bb (by omega))
  have Hc := Lib.hid (Hc.out.below bb (by omega))
  have Hx := Lib.hid (Hx.out.below bb (by omega))
  have HB := Lib.hid (HB.out.trans (bb.mono HB.out.size))
  have hzw5 := bb.size
  clear bb
  obtain ⟨s1, hb1, hz1⟩ := one_slot w5 [.int .i64 y1, .int .i64 y2] #[.int .i64 y1, .int .i64 y2] 23 rfl
  have la : w.heap.size < w5.heap.size := by omega
  have ca0 := Ha.out.c 0 _ rfl
  have ca1 := Ha.out.c 1 _ rfl
  go_wp2_with fail
  generalize w5.alloc (.cells #[.int .i64 y1, .int .i64 y2] 23) = V6 at s1 hb1 hz1 ⊢
  have Ha := Lib.hid (Ha.out.below hb1 (by omega))
  have Hb := Lib.hid (Hb.out.below hb1 (by omega))
  have Hc := Lib.hid (Hc.out.below hb1 (by omega))
  have Hx := Lib.hid (Hx.out.below hb1 (by omega))
  have Hy := Lib.hid s1
  have HB := Lib.hid (HB.out.trans (hb1.mono HB.out.size))
  clear s1 hb1
  have hzV6 := hz1; clear hz1
  clear ca0 ca1
  refine (KE.out V6 _ hzV6).mono ?_
  clear KE
  rintro e w7 ⟨rfl, bb⟩
  have Ha := Lib.hid (Ha.out.below bb (by omega))
  have Hb := Lib.hid (Hb.out.below bb (by omega))
  have Hc := Lib.hid (Hc.out.below bb (by omega))
  have Hx := Lib.hid (Hx.out.below bb (by omega))
  have Hy := Lib.hid (Hy.out.below bb (by omega))
  have HB := Lib.hid (HB.out.trans (bb.mono HB.out.size))
  have hzw7 := bb.size
  clear bb
  have ly : w5.heap.size < w7.heap.size := by omega
  have cy0 := Hy.out.c 0 _ rfl
  have cy1 := Hy.out.c 1 _ rfl
  have fy0 := Hy.out.f 0
  have fy1 := Hy.out.f 1
  have lb : w.heap.size + 1 < w7.heap.size := by omega
  have cb0 := Hb.out.c 0 _ rfl
  have cb1 := Hb.out.c 1 _ rfl
  have la : w.heap.size < w7.heap.size := by omega
  have ca0 := Ha.out.c 0 _ rfl
  have ca1 := Ha.out.c 1 _ rfl
  go_wp2_with fail
  clear cy0 cy1 cb0 cb1 ca0 ca1 fy0 fy1
  have s2 := Hy.out.set2 (.int .i64 v1) (.int .i64 v2)
  have ga := (Ha.out.set_other ⟨w5.heap.size, 0, none⟩ (.int .i64 v1) (by simp only; omega)).set_other ⟨w5.heap.size, 1, none⟩ (.int .i64 v2) (by simp only; omega)
  have gb := (Hb.out.set_other ⟨w5.heap.size, 0, none⟩ (.int .i64 v1) (by simp only; omega)).set_other ⟨w5.heap.size, 1, none⟩ (.int .i64 v2) (by simp only; omega)
  have gc := (Hc.out.set_other ⟨w5.heap.size, 0, none⟩ (.int .i64 v1) (by simp only; omega)).set_other ⟨w5.heap.size, 1, none⟩ (.int .i64 v2) (by simp only; omega)
  have gx := (Hx.out.set_other ⟨w5.heap.size, 0, none⟩ (.int .i64 v1) (by simp only; omega)).set_other ⟨w5.heap.size, 1, none⟩ (.int .i64 v2) (by simp only; omega)
  have hb2 := (HB.out.setCell (p := ⟨w5.heap.size, 0, none⟩) (by simp only; omega) (.int .i64 v1)).setCell (p := ⟨w5.heap.size, 1, none⟩) (by simp only; omega) (.int .i64 v2)
  have hz2 : ((w7.setCell ⟨w5.heap.size, 0, none⟩ (.int .i64 v1)).setCell ⟨w5.heap.size, 1, none⟩ (.int .i64 v2)).heap.size = w7.heap.size := by simp
  generalize (w7.setCell ⟨w5.heap.size, 0, none⟩ (.int .i64 v1)).setCell ⟨w5.heap.size, 1, none⟩ (.int .i64 v2) = V8 at s2 hb2 hz2 ga gb gc gx ⊢
  clear Hy
  clear Ha
  have Ha := Lib.hid ga; clear ga
  clear Hb
  have Hb := Lib.hid gb; clear gb
  clear Hc
  have Hc := Lib.hid gc; clear gc
  clear Hx
  have Hx := Lib.hid gx; clear gx
  have Hy := Lib.hid s2; clear s2
  have HB := Lib.hid hb2; clear hb2
  have hzV8 := hz2; clear hz2
  refine (KD.out V8 _ hzV8).mono ?_
  clear KD
  rintro e w9 ⟨rfl, bb⟩
  have Ha := Lib.hid (Ha.out.below bb (by omega))
  have Hb := Lib.hid (Hb.out.below bb (by omega))
  have Hc := Lib.hid (Hc.out.below bb (by omega))
  have Hx := Lib.hid (Hx.out.below bb (by omega))
  have Hy := Lib.hid (Hy.out.below bb (by omega))
  have HB := Lib.hid (HB.out.trans (bb.mono HB.out.size))
  have hzw9 := bb.size
  clear bb
  obtain ⟨s1, hb1, hz1⟩ := one_slot w9 [.int .i64 x1, .int .i64 x2] #[.int .i64 x1, .int .i64 x2] 23 rfl
  have la : w.heap.size < w9.heap.size := by omega
  have ca0 := Ha.out.c 0 _ rfl
  have ca1 := Ha.out.c 1 _ rfl
  have lb : w.heap.size + 1 < w9.heap.size := by omega
  have cb0 := Hb.out.c 0 _ rfl
  have cb1 := Hb.out.c 1 _ rfl
  go_wp2_with fail
  generalize w9.alloc (.cells #[.int .i64 x1, .int .i64 x2] 23) = V10 at s1 hb1 hz1 ⊢
  have Ha := Lib.hid (Ha.out.below hb1 (by omega))
  have Hb := Lib.hid (Hb.out.below hb1 (by omega))
  have Hc := Lib.hid (Hc.out.below hb1 (by omega))
  have Hx := Lib.hid (Hx.out.below hb1 (by omega))
  have Hy := Lib.hid (Hy.out.below hb1 (by omega))
  have Hz := Lib.hid s1
  have HB := Lib.hid (HB.out.trans (hb1.mono HB.out.size))
  clear s1 hb1
  have hzV10 := hz1; clear hz1
  clear ca0 ca1 cb0 cb1
  refine (KA.out V10 _ hzV10).mono ?_
  clear KA
  rintro e w11 ⟨rfl, bb⟩
  have Ha := Lib.hid (Ha.out.below bb (by omega))
  have Hb := Lib.hid (Hb.out.below bb (by omega))
  have Hc := Lib.hid (Hc.out.below bb (by omega))
  have Hx := Lib.hid (Hx.out.below bb (by omega))
  have Hy := Lib.hid (Hy.out.below bb (by omega))
  have Hz := Lib.hid (Hz.out.below bb (by omega))
  have HB := Lib.hid (HB.out.trans (bb.mono HB.out.size))
  have hzw11 := bb.size
  clear bb
  obtain ⟨s1, hb1, hz1⟩ := one_slot w11 [.int .i64 x1, .int .i64 x2] #[.int .i64 x1, .int .i64 x2] 23 rfl
  have lz : w9.heap.size < w11.heap.size := by omega
  have cz0 := Hz.out.c 0 _ rfl
  have cz1 := Hz.out.c 1 _ rfl
  go_upto_region 9 with fail
  generalize w11.alloc (.cells #[.int .i64 x1, .int .i64 x2] 23) = V12 at s1 hb1 hz1 ⊢
  have Ha := Lib.hid (Ha.out.below hb1 (by omega))
  have Hb := Lib.hid (Hb.out.below hb1 (by omega))
  have Hc := Lib.hid (Hc.out.below hb1 (by omega))
  have Hx := Lib.hid (Hx.out.below hb1 (by omega))
  have Hy := Lib.hid (Hy.out.below hb1 (by omega))
  have Hz := Lib.hid (Hz.out.below hb1 (by omega))
  have Hv := Lib.hid s1
  have HB := Lib.hid (HB.out.trans (hb1.mono HB.out.size))
  clear s1 hb1
  have hzV12 := hz1; clear hz1
  clear cz0 cz1
  have lx : w1.heap.size < V12.heap.size := by omega
  have cx0 := Hx.out.c 0 _ rfl
  have cx1 := Hx.out.c 1 _ rfl
  have ly : w5.heap.size < V12.heap.size := by omega
  have cy0 := Hy.out.c 0 _ rfl
  have cy1 := Hy.out.c 1 _ rfl
  go_cut [91] (fun s91 wx => s91 = .bool false ∧ V12 = wx)
  case first =>
    by_cases d_ee : ee = 0
    case neg =>
      have q_ee : (ee == 0) = false := by simpa using d_ee
      go_wp2_with fail
      go_meet
      exact ⟨rfl, rfl⟩
    have q_ee : (ee == 0) = true := by simpa using d_ee
    by_cases d_ef : ef = 0
    case neg =>
      have q_ef : (ef == 0) = false := by simpa using d_ef
      go_wp2_with fail
      go_meet
      exact ⟨rfl, rfl⟩
    have q_ef : (ef == 0) = true := by simpa using d_ef
    by_cases d_eg : eg = 0
    case neg =>
      have q_eg : (eg == 0) = false := by simpa using d_eg
      go_wp2_with fail
      go_meet
      exact ⟨rfl, rfl⟩
    have q_eg : (eg == 0) = true := by simpa using d_eg
    by_cases d_eh : eh = 0
    case neg =>
      have q_eh : (eh == 0) = false := by simpa using d_eh
      go_wp2_with fail
      go_meet
      exact ⟨rfl, rfl⟩
    have q_eh : (eh == 0) = true := by simpa using d_eh
    have hxy := HAS.out d_ee d_ef d_eg d_eh
    injection hxy with hx1 hx2
    subst hx1; subst hx2
    clear d_ee d_ef d_eg d_eh
    go_wp2_with fail
    go_meet
    exact ⟨rfl, rfl⟩
  case rest =>
    obtain ⟨rfl, rfl⟩ := hcut
    clear cx0 cx1 cy0 cy1
    have la : w.heap.size < V12.heap.size := by omega
    have ca0 := Ha.out.c 0 _ rfl
    have ca1 := Ha.out.c 1 _ rfl
    go_wp2_with fail
    clear ca0 ca1
    refine (KF.out _).mono ?_
    clear KF
    rintro e w13 ⟨rfl, bb⟩
    have Ha := Lib.hid (Ha.out.below bb (by omega))
    have Hb := Lib.hid (Hb.out.below bb (by omega))
    have Hc := Lib.hid (Hc.out.below bb (by omega))
    have Hx := Lib.hid (Hx.out.below bb (by omega))
    have Hy := Lib.hid (Hy.out.below bb (by omega))
    have Hz := Lib.hid (Hz.out.below bb (by omega))
    have Hv := Lib.hid (Hv.out.below bb (by omega))
    have HB := Lib.hid (HB.out.trans (bb.mono HB.out.size))
    have hzw13 := bb.size
    clear bb
    obtain ⟨s1, hb1, hz1⟩ := one_slot w13 [.int .i64 n1, .int .i64 n2] #[.int .i64 n1, .int .i64 n2] 23 rfl
    have la : w.heap.size < w13.heap.size := by omega
    have ca0 := Ha.out.c 0 _ rfl
    have ca1 := Ha.out.c 1 _ rfl
    go_wp2_with fail
    generalize w13.alloc (.cells #[.int .i64 n1, .int .i64 n2] 23) = V14 at s1 hb1 hz1 ⊢
    have Ha := Lib.hid (Ha.out.below hb1 (by omega))
    have Hb := Lib.hid (Hb.out.below hb1 (by omega))
    have Hc := Lib.hid (Hc.out.below hb1 (by omega))
    have Hx := Lib.hid (Hx.out.below hb1 (by omega))
    have Hy := Lib.hid (Hy.out.below hb1 (by omega))
    have Hz := Lib.hid (Hz.out.below hb1 (by omega))
    have Hv := Lib.hid (Hv.out.below hb1 (by omega))
    have Hn := Lib.hid s1
    have HB := Lib.hid (HB.out.trans (hb1.mono HB.out.size))
    clear s1 hb1
    have hzV14 := hz1; clear hz1
    clear ca0 ca1
    refine (KG.out V14 _ hzV14).mono ?_
    clear KG
    rintro e w15 ⟨rfl, bb⟩
    have Ha := Lib.hid (Ha.out.below bb (by omega))
    have Hb := Lib.hid (Hb.out.below bb (by omega))
    have Hc := Lib.hid (Hc.out.below bb (by omega))
    have Hx := Lib.hid (Hx.out.below bb (by omega))
    have Hy := Lib.hid (Hy.out.below bb (by omega))
    have Hz := Lib.hid (Hz.out.below bb (by omega))
    have Hv := Lib.hid (Hv.out.below bb (by omega))
    have Hn := Lib.hid (Hn.out.below bb (by omega))
    have HB := Lib.hid (HB.out.trans (bb.mono HB.out.size))
    have hzw15 := bb.size
    clear bb
    obtain ⟨s1, hb1, hz1⟩ := one_slot w15 [.int .i64 o1, .int .i64 o2] #[.int .i64 o1, .int .i64 o2] 23 rfl
    have ln : w13.heap.size < w15.heap.size := by omega
    have cn0 := Hn.out.c 0 _ rfl
    have cn1 := Hn.out.c 1 _ rfl
    go_wp2_with fail
    generalize w15.alloc (.cells #[.int .i64 o1, .int .i64 o2] 23) = V16 at s1 hb1 hz1 ⊢
    have Ha := Lib.hid (Ha.out.below hb1 (by omega))
    have Hb := Lib.hid (Hb.out.below hb1 (by omega))
    have Hc := Lib.hid (Hc.out.below hb1 (by omega))
    have Hx := Lib.hid (Hx.out.below hb1 (by omega))
    have Hy := Lib.hid (Hy.out.below hb1 (by omega))
    have Hz := Lib.hid (Hz.out.below hb1 (by omega))
    have Hv := Lib.hid (Hv.out.below hb1 (by omega))
    have Hn := Lib.hid (Hn.out.below hb1 (by omega))
    have Ho := Lib.hid s1
    have HB := Lib.hid (HB.out.trans (hb1.mono HB.out.size))
    clear s1 hb1
    have hzV16 := hz1; clear hz1
    clear cn0 cn1
    refine (KH.out _).mono ?_
    clear KH
    rintro e w17 ⟨rfl, bb⟩
    have Ha := Lib.hid (Ha.out.below bb (by omega))
    have Hb := Lib.hid (Hb.out.below bb (by omega))
    have Hc := Lib.hid (Hc.out.below bb (by omega))
    have Hx := Lib.hid (Hx.out.below bb (by omega))
    have Hy := Lib.hid (Hy.out.below bb (by omega))
    have Hz := Lib.hid (Hz.out.below bb (by omega))
    have Hv := Lib.hid (Hv.out.below bb (by omega))
    have Hn := Lib.hid (Hn.out.below bb (by omega))
    have Ho := Lib.hid (Ho.out.below bb (by omega))
    have HB := Lib.hid (HB.out.trans (bb.mono HB.out.size))
    have hzw17 := bb.size
    clear bb
    obtain ⟨s1, hb1, hz1⟩ := one_slot w17 [.int .i64 p1, .int .i64 p2] #[.int .i64 p1, .int .i64 p2] 23 rfl
    by_cases hk : ek = 0
    case pos =>
      have hn := HNE.out hk
      subst hk
      obtain ⟨hn1, hn2⟩ := hn
      injection hn1 with hn1 hn3
      injection hn1 with hn4 hn5
      injection hn2 with hn2 hn6
      injection hn2 with hn7 hn8
      subst hn3; subst hn4; subst hn5; subst hn6; subst hn7; subst hn8
      go_wp2_with fail
      generalize w17.alloc (.cells #[.int .i64 p1, .int .i64 p2] 23) = V18 at s1 hb1 hz1 ⊢
      have Ha := Lib.hid (Ha.out.below hb1 (by omega))
      have Hb := Lib.hid (Hb.out.below hb1 (by omega))
      have Hc := Lib.hid (Hc.out.below hb1 (by omega))
      have Hx := Lib.hid (Hx.out.below hb1 (by omega))
      have Hy := Lib.hid (Hy.out.below hb1 (by omega))
      have Hz := Lib.hid (Hz.out.below hb1 (by omega))
      have Hv := Lib.hid (Hv.out.below hb1 (by omega))
      have Hn := Lib.hid (Hn.out.below hb1 (by omega))
      have Ho := Lib.hid (Ho.out.below hb1 (by omega))
      have Hp := Lib.hid s1
      have HB := Lib.hid (HB.out.trans (hb1.mono HB.out.size))
      clear s1 hb1
      have hzV18 := hz1; clear hz1
      have lo : w15.heap.size < V18.heap.size := by omega
      have co0 := Ho.out.c 0 _ rfl
      have co1 := Ho.out.c 1 _ rfl
      have lp : w17.heap.size < V18.heap.size := by omega
      have cp0 := Hp.out.c 0 _ rfl
      have cp1 := Hp.out.c 1 _ rfl
      have la : w.heap.size < V18.heap.size := by omega
      have ca0 := Ha.out.c 0 _ rfl
      have ca1 := Ha.out.c 1 _ rfl
      go_region_held3 (fun w' => w'.cell? ⟨w15.heap.size, 0, none⟩ = some (.int .i64 0) ∧ w'.cell? ⟨w15.heap.size, 1, none⟩ = some (.int .i64 0) ∧ w'.cell? ⟨w17.heap.size, 0, none⟩ = some (.int .i64 p1) ∧ w'.cell? ⟨w17.heap.size, 1, none⟩ = some (.int .i64 p2) ∧ w'.cell? ⟨w.heap.size, 0, none⟩ = some (.int .i64 p1) ∧ w'.cell? ⟨w.heap.size, 1, none⟩ = some (.int .i64 p2))
        (refine ⟨?_, ?_, ?_, ?_, ?_, ?_⟩ <;> (first | with_reducible assumption | (rw [hby.cell (by (try dsimp only); omega)]; with_reducible assumption) | (go_keep; done)))
        (first
          | (go_at_call 13; refine (T1.out _ (HTB.out.on HB.out.drew)).mono ?_; clear T1; rintro e wx ⟨rfl, hbx⟩; have hby : Below V18.heap.size V18 wx := (Below.refl _ V18).drew.trans (hbx.mono (by simp)))
          | (go_at_call 18; refine (T2.out _).mono ?_; clear T2; rintro e wx ⟨rfl, hbx⟩; have hby : Below V18.heap.size V18 wx := hby.trans (hbx.mono hby.size)))
      all_goals
        go_wp2_with fail
        go_ret
        exact ⟨rfl, HB.out.trans (hby.mono (by have := HB.out.size; omega))⟩
    have q_ek : (ek == 0) = false := by simpa using hk
    have q_ek2 : (ek != 0) = true := by simpa using hk
    go_wp2_with fail
    generalize w17.alloc (.cells #[.int .i64 p1, .int .i64 p2] 23) = V18 at s1 hb1 hz1 ⊢
    have Ha := Lib.hid (Ha.out.below hb1 (by omega))
    have Hb := Lib.hid (Hb.out.below hb1 (by omega))
    have Hc := Lib.hid (Hc.out.below hb1 (by omega))
    have Hx := Lib.hid (Hx.out.below hb1 (by omega))
    have Hy := Lib.hid (Hy.out.below hb1 (by omega))
    have Hz := Lib.hid (Hz.out.below hb1 (by omega))
    have Hv := Lib.hid (Hv.out.below hb1 (by omega))
    have Hn := Lib.hid (Hn.out.below hb1 (by omega))
    have Ho := Lib.hid (Ho.out.below hb1 (by omega))
    have Hp := Lib.hid s1
    have HB := Lib.hid (HB.out.trans (hb1.mono HB.out.size))
    clear s1 hb1
    have hzV18 := hz1; clear hz1
    have lo : w15.heap.size < V18.heap.size := by omega
    have co0 := Ho.out.c 0 _ rfl
    have co1 := Ho.out.c 1 _ rfl
    have lp : w17.heap.size < V18.heap.size := by omega
    have cp0 := Hp.out.c 0 _ rfl
    have cp1 := Hp.out.c 1 _ rfl
    have la : w.heap.size < V18.heap.size := by omega
    have ca0 := Ha.out.c 0 _ rfl
    have ca1 := Ha.out.c 1 _ rfl
    refine wp_region_held_drew (S := fun _ => True) (by kernel_rfl) ?_ (fun hHeld => ?_)
    · trivial
    refine wpAnyH_ready (rs := [0]) (by kernel_rfl) (by simp) ?_
    refine AllReadyH.cons (o := _) rfl (fun K hK => ?_) AllReadyH.nil
    go_simp
    refine (T1.out _ (HTB.out.on HB.out.drew)).mono ?_
    clear T1
    rintro e wx ⟨rfl, hbx⟩
    have hby : Below V18.heap.size V18 wx := (Below.refl _ V18).drew.trans (hbx.mono (by simp))
    try go_simp
    refine hK.out _ _ ?_ (fun hHeld => ?_)
    · trivial
    clear hK K
    refine wpAnyH_takeD 1 (d := (some 110)) (v := ?_) rfl rfl (by kernel_rfl) (by kernel_rfl) (by kernel_rfl) (by kernel_rfl) (fun _ _ _ h => h) ?_ (by assumption) ?_
    rotate_left
    · intro ww hSw; (try dsimp only at hSw); first | (go_simp; done) | (go_simp; with_reducible rfl)
    simp only [Act.put, List.setIfInBounds_toArray, List.set_cons_zero, List.set_cons_succ]
    refine wpAnyH_takeD 2 (d := (some 111)) (v := ?_) rfl rfl (by kernel_rfl) (by kernel_rfl) (by kernel_rfl) (by kernel_rfl) (fun _ _ _ h => h) ?_ (by assumption) ?_
    rotate_left
    · intro ww hSw; (try dsimp only at hSw); first | (go_simp; done) | (go_simp; with_reducible rfl)
    simp only [Act.put, List.setIfInBounds_toArray, List.set_cons_zero, List.set_cons_succ]
    refine wpAnyH_takeD 3 (d := (some 112)) (v := ?_) rfl rfl (by kernel_rfl) (by kernel_rfl) (by kernel_rfl) (by kernel_rfl) (fun _ _ _ h => h) ?_ (by assumption) ?_
    rotate_left
    · intro ww hSw; (try dsimp only at hSw); first | (go_simp; done) | (go_simp; with_reducible rfl)
    simp only [Act.put, List.setIfInBounds_toArray, List.set_cons_zero, List.set_cons_succ]
    refine wpAnyH_takeD 4 (d := (some 113)) (v := ?_) rfl rfl (by kernel_rfl) (by kernel_rfl) (by kernel_rfl) (by kernel_rfl) (fun _ _ _ h => h) ?_ (by assumption) ?_
    rotate_left
    · intro ww hSw; (try dsimp only at hSw); first | (go_simp; done) | (go_simp; with_reducible rfl)
    simp only [Act.put, List.setIfInBounds_toArray, List.set_cons_zero, List.set_cons_succ]
    refine wpAnyH_skip 5 (d := (some 114)) (by kernel_rfl) (by kernel_rfl) (by kernel_rfl) (by kernel_rfl) (fun _ _ _ h => h) (by assumption) ?_
    simp only [Act.put, List.setIfInBounds_toArray, List.set_cons_zero, List.set_cons_succ]
    refine wpAnyH_skip 6 (d := (some 115)) (by kernel_rfl) (by kernel_rfl) (by kernel_rfl) (by kernel_rfl) (fun _ _ _ h => h) (by assumption) ?_
    simp only [Act.put, List.setIfInBounds_toArray, List.set_cons_zero, List.set_cons_succ]
    refine wpAnyH_skip 7 (d := (some 116)) (by kernel_rfl) (by kernel_rfl) (by kernel_rfl) (by kernel_rfl) (fun _ _ _ h => h) (by assumption) ?_
    simp only [Act.put, List.setIfInBounds_toArray, List.set_cons_zero, List.set_cons_succ]
    refine wpAnyH_skip 8 (d := (some 117)) (by kernel_rfl) (by kernel_rfl) (by kernel_rfl) (by kernel_rfl) (fun _ _ _ h => h) (by assumption) ?_
    simp only [Act.put, List.setIfInBounds_toArray, List.set_cons_zero, List.set_cons_succ]
    refine wpAnyH_skip 9 (d := (some 118)) (by kernel_rfl) (by kernel_rfl) (by kernel_rfl) (by kernel_rfl) (fun _ _ _ h => h) (by assumption) ?_
    simp only [Act.put, List.setIfInBounds_toArray, List.set_cons_zero, List.set_cons_succ]
    refine wpAnyH_skip 10 (d := (some 119)) (by kernel_rfl) (by kernel_rfl) (by kernel_rfl) (by kernel_rfl) (fun _ _ _ h => h) (by assumption) ?_
    simp only [Act.put, List.setIfInBounds_toArray, List.set_cons_zero, List.set_cons_succ]
    refine wpAnyH_skip 11 (d := (some 120)) (by kernel_rfl) (by kernel_rfl) (by kernel_rfl) (by kernel_rfl) (fun _ _ _ h => h) (by assumption) ?_
    simp only [Act.put, List.setIfInBounds_toArray, List.set_cons_zero, List.set_cons_succ]
    refine wpAnyH_skip 12 (d := (some 121)) (by kernel_rfl) (by kernel_rfl) (by kernel_rfl) (by kernel_rfl) (fun _ _ _ h => h) (by assumption) ?_
    simp only [Act.put, List.setIfInBounds_toArray, List.set_cons_zero, List.set_cons_succ]
    refine wpAnyH_skip 13 (d := (some 122)) (by kernel_rfl) (by kernel_rfl) (by kernel_rfl) (by kernel_rfl) (fun _ _ _ h => h) (by assumption) ?_
    simp only [Act.put, List.setIfInBounds_toArray, List.set_cons_zero, List.set_cons_succ]
    refine wpAnyH_skip 14 (d := (some 123)) (by kernel_rfl) (by kernel_rfl) (by kernel_rfl) (by kernel_rfl) (fun _ _ _ h => h) (by assumption) ?_
    simp only [Act.put, List.setIfInBounds_toArray, List.set_cons_zero, List.set_cons_succ]
    refine wpAnyH_skip 15 (d := (some 124)) (by kernel_rfl) (by kernel_rfl) (by kernel_rfl) (by kernel_rfl) (fun _ _ _ h => h) (by assumption) ?_
    simp only [Act.put, List.setIfInBounds_toArray, List.set_cons_zero, List.set_cons_succ]
    refine wpAnyH_skip 16 (d := (some 125)) (by kernel_rfl) (by kernel_rfl) (by kernel_rfl) (by kernel_rfl) (fun _ _ _ h => h) (by assumption) ?_
    simp only [Act.put, List.setIfInBounds_toArray, List.set_cons_zero, List.set_cons_succ]
    refine wpAnyH_skip 17 (d := (some 126)) (by kernel_rfl) (by kernel_rfl) (by kernel_rfl) (by kernel_rfl) (fun _ _ _ h => h) (by assumption) ?_
    simp only [Act.put, List.setIfInBounds_toArray, List.set_cons_zero, List.set_cons_succ]
    refine wpAnyH_skip 18 (d := (some 127)) (by kernel_rfl) (by kernel_rfl) (by kernel_rfl) (by kernel_rfl) (fun _ _ _ h => h) (by assumption) ?_
    simp only [Act.put, List.setIfInBounds_toArray, List.set_cons_zero, List.set_cons_succ]
    refine wpAnyH_skip 19 (d := (some 128)) (by kernel_rfl) (by kernel_rfl) (by kernel_rfl) (by kernel_rfl) (fun _ _ _ h => h) (by assumption) ?_
    simp only [Act.put, List.setIfInBounds_toArray, List.set_cons_zero, List.set_cons_succ]
    refine wpAnyH_skip 20 (d := (some 129)) (by kernel_rfl) (by kernel_rfl) (by kernel_rfl) (by kernel_rfl) (fun _ _ _ h => h) (by assumption) ?_
    simp only [Act.put, List.setIfInBounds_toArray, List.set_cons_zero, List.set_cons_succ]
    refine wpAnyH_takeD 21 (d := (some 130)) (v := ?_) rfl rfl (by kernel_rfl) (by kernel_rfl) (by kernel_rfl) (by kernel_rfl) (fun _ _ _ h => h) ?_ (by assumption) ?_
    rotate_left
    · intro ww hSw; (try dsimp only at hSw); first | (go_simp; done) | (go_simp; with_reducible rfl)
    simp only [Act.put, List.setIfInBounds_toArray, List.set_cons_zero, List.set_cons_succ]
    refine wpAnyH_takeD 22 (d := (some 131)) (v := ?_) rfl rfl (by kernel_rfl) (by kernel_rfl) (by kernel_rfl) (by kernel_rfl) (fun _ _ _ h => h) ?_ (by assumption) ?_
    rotate_left
    · intro ww hSw; (try dsimp only at hSw); first | (go_simp; done) | (go_simp; with_reducible rfl)
    simp only [Act.put, List.setIfInBounds_toArray, List.set_cons_zero, List.set_cons_succ]
    refine wpAnyH_takeD 23 (d := (some 6)) (v := ?_) rfl rfl (by kernel_rfl) (by kernel_rfl) (by kernel_rfl) (by kernel_rfl) (fun _ _ _ h => h) ?_ (by assumption) ?_
    rotate_left
    · intro ww hSw; (try dsimp only at hSw); first | (go_simp; done) | (go_simp; with_reducible rfl)
    simp only [Act.put, List.setIfInBounds_toArray, List.set_cons_zero, List.set_cons_succ]
    refine wpAnyH_done (by kernel_rfl) ?_ _
    all_goals
      go_wp2_with fail
      go_ret
      exact ⟨rfl, HB.out.trans (hby.mono (by have := HB.out.size; omega))⟩
end Go.Proofs.YtcllghcplphijaaDoor
