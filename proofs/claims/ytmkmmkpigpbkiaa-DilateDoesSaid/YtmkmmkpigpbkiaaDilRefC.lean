/-
  THE WALK OF limewashref28.Near.
-/
import Derived.Test.YtmkmmkpigpbkiaaDilRefA
import Derived.Test.YtmkmmkpigpbkiaaDilRefB
import Derived.Test.YtmkmmkpigpbkiaaDilWalkG
import Derived.RegionTactic
import Derived.BigRegion
set_option linter.unusedVariables false
set_option linter.unusedSimpArgs false
namespace Go.Proofs.Ytmkmmkpigpbkiaa
open Go.RowKit

theorem rnear_no (A : Option Addr) (n c : Nat) (v : List Int) (ww pad x y : Int) (w : World) (hI : Ints w w.heap.size A n v) (hn : n ≤ 1000) (bw : i64b ww) (hno : nearOk ww pad v x y = false) :
    Calls Try.prog 10 #[.int .i64 ww, .int .i64 pad, .slice A n c, .int .i64 x, .int .i64 y] w (NearFRes ww pad v x y w) := by
  have hl := Lib.hid hI.length
  have HNO := Lib.hid (nearF_no hno)
  have hs0 := SlotN.new w [.int .i64 0, .int .i64 0] #[.int .i64 0, .int .i64 0] 24 rfl
  have hb0 : Below w.heap.size w (w.alloc (.cells #[.int .i64 0, .int .i64 0] 24)) := (Below.refl _ _).alloc (Nat.le_refl _) _
  have HV := Lib.hid (values_any w.heap.size A n c v ww (w.alloc (.cells #[.int .i64 0, .int .i64 0] 24)) (hI.below hb0 (Nat.le_refl _)) hn bw)
  have hH := hno
  unfold nearOk at hH
  have HH := Lib.hid hH; clear hH hno
  have fin : ∀ W, Below w.heap.size w W → SlotN W w.heap.size [.int .i64 0, .int .i64 0] → True := fun _ _ _ => trivial
  have a0 := hs0.c 0 _ rfl
  have a1 := hs0.c 1 _ rfl
  have a2 := hs0.f 0
  have a3 := hs0.f 1
  clear fin hs0
  cases h1 : levelOk ww v with
  | false =>
    rw [h1] at HV
    clear h1
    go_enter Try.func10, Try.ntmps10
    go_wp2_with fail
    refine HV.out.mono ?_
    rintro e w1 ⟨rfl, rfl⟩
    go_wp2_with fail
    refine bodyPost_ret (v := .tuple #[.agg #[.int .i64 0, .int .i64 0], .bool false]) (by simp [results, Try.results10, go_sem, a0, a1]) rfl ⟨by rw [HNO.out]; rfl, ?_⟩
    first | exact hb0 | exact (hb0.setCell (p := ⟨w.heap.size, 0, none⟩) (Nat.le_refl _) _).setCell (p := ⟨w.heap.size, 1, none⟩) (Nat.le_refl _) _
  | true =>
    rw [h1] at HV
    obtain ⟨q, rfl⟩ : ∃ q : Nat, ww = q := ⟨ww.toNat, by have := (levelOk_iff.1 h1).1; omega⟩
    have q1 := (levelOk_iff.1 h1).1
    have n0 : 0 ≤ (n : Int) / q := Int.ediv_nonneg (by omega) (by omega)
    have n1 : (n : Int) / q ≤ 1000 := Int.le_trans (Int.ediv_le_self _ (by omega)) (by omega)
    have HH2 : Hid ((padOk pad && (decide (0 ≤ x) && decide (x < q) && decide (0 ≤ y) && decide (y < (n : Int) / q))) = false) := Lib.hid (by have := HH.out; rw [h1, hl.out] at this; simpa using this)
    clear h1
    by_cases p0 : pad < 0
    · have dp0 : decide (pad < 0) = true := decide_eq_true p0
      go_enter Try.func10, Try.ntmps10
      go_wp2_with fail
      refine HV.out.mono ?_
      rintro e w1 ⟨rfl, rfl⟩
      go_wp2_with fail
      refine bodyPost_ret (v := .tuple #[.agg #[.int .i64 0, .int .i64 0], .bool false]) (by simp [results, Try.results10, go_sem, a0, a1]) rfl ⟨by rw [HNO.out]; rfl, ?_⟩
      first | exact hb0 | exact (hb0.setCell (p := ⟨w.heap.size, 0, none⟩) (Nat.le_refl _) _).setCell (p := ⟨w.heap.size, 1, none⟩) (Nat.le_refl _) _
    have dp0 : decide (pad < 0) = false := decide_eq_false p0
    by_cases p1 : 8 < pad
    · have dp1 : decide (8 < pad) = true := decide_eq_true p1
      go_enter Try.func10, Try.ntmps10
      go_wp2_with fail
      refine HV.out.mono ?_
      rintro e w1 ⟨rfl, rfl⟩
      go_wp2_with fail
      refine bodyPost_ret (v := .tuple #[.agg #[.int .i64 0, .int .i64 0], .bool false]) (by simp [results, Try.results10, go_sem, a0, a1]) rfl ⟨by rw [HNO.out]; rfl, ?_⟩
      first | exact hb0 | exact (hb0.setCell (p := ⟨w.heap.size, 0, none⟩) (Nat.le_refl _) _).setCell (p := ⟨w.heap.size, 1, none⟩) (Nat.le_refl _) _
    have dp1 : decide (8 < pad) = false := decide_eq_false p1
    by_cases x0 : x < 0
    · have dx0 : decide (x < 0) = true := decide_eq_true x0
      go_enter Try.func10, Try.ntmps10
      go_wp2_with fail
      refine HV.out.mono ?_
      rintro e w1 ⟨rfl, rfl⟩
      go_wp2_with fail
      refine bodyPost_ret (v := .tuple #[.agg #[.int .i64 0, .int .i64 0], .bool false]) (by simp [results, Try.results10, go_sem, a0, a1]) rfl ⟨by rw [HNO.out]; rfl, ?_⟩
      first | exact hb0 | exact (hb0.setCell (p := ⟨w.heap.size, 0, none⟩) (Nat.le_refl _) _).setCell (p := ⟨w.heap.size, 1, none⟩) (Nat.le_refl _) _
    have dx0 : decide (x < 0) = false := decide_eq_false x0
    by_cases x1 : (q : Int) ≤ x
    · have dx1 : decide ((q : Int) ≤ x) = true := decide_eq_true x1
      go_enter Try.func10, Try.ntmps10
      go_wp2_with fail
      refine HV.out.mono ?_
      rintro e w1 ⟨rfl, rfl⟩
      go_wp2_with fail
      refine bodyPost_ret (v := .tuple #[.agg #[.int .i64 0, .int .i64 0], .bool false]) (by simp [results, Try.results10, go_sem, a0, a1]) rfl ⟨by rw [HNO.out]; rfl, ?_⟩
      first | exact hb0 | exact (hb0.setCell (p := ⟨w.heap.size, 0, none⟩) (Nat.le_refl _) _).setCell (p := ⟨w.heap.size, 1, none⟩) (Nat.le_refl _) _
    have dx1 : decide ((q : Int) ≤ x) = false := decide_eq_false x1
    by_cases y0 : y < 0
    · have dy0 : decide (y < 0) = true := decide_eq_true y0
      go_enter Try.func10, Try.ntmps10
      go_wp2_with fail
      refine HV.out.mono ?_
      rintro e w1 ⟨rfl, rfl⟩
      go_wp2_with fail
      refine bodyPost_ret (v := .tuple #[.agg #[.int .i64 0, .int .i64 0], .bool false]) (by simp [results, Try.results10, go_sem, a0, a1]) rfl ⟨by rw [HNO.out]; rfl, ?_⟩
      first | exact hb0 | exact (hb0.setCell (p := ⟨w.heap.size, 0, none⟩) (Nat.le_refl _) _).setCell (p := ⟨w.heap.size, 1, none⟩) (Nat.le_refl _) _
    have dy0 : decide (y < 0) = false := decide_eq_false y0
    have y1 : (n : Int) / q ≤ y := by
      refine Int.not_lt.1 fun hh => ?_
      have := HH2.out
      rw [padOk_iff.2 ⟨by omega, by omega⟩, decide_eq_true (show 0 ≤ x by omega), decide_eq_true (show x < q by omega), decide_eq_true (show 0 ≤ y by omega), decide_eq_true hh] at this
      cases this
    have dy1 : decide ((n : Int) / q ≤ y) = true := decide_eq_true y1
    go_enter Try.func10, Try.ntmps10
    go_wp2_with fail
    refine HV.out.mono ?_
    rintro e w1 ⟨rfl, rfl⟩
    go_wp2_with fail
    refine bodyPost_ret (v := .tuple #[.agg #[.int .i64 0, .int .i64 0], .bool false]) (by simp [results, Try.results10, go_sem, a0, a1]) rfl ⟨by rw [HNO.out]; rfl, ?_⟩
    first | exact hb0 | exact (hb0.setCell (p := ⟨w.heap.size, 0, none⟩) (Nat.le_refl _) _).setCell (p := ⟨w.heap.size, 1, none⟩) (Nat.le_refl _) _

/-- near's variables: the answer, here, the best one so far, the one at hand -/
structure RNear (W : World) (H g : Nat) (x y b1 b2 u1 u2 : Int) : Prop where
  s0 : SlotN W H [.int .i64 0, .int .i64 0]
  s1 : SlotN W (H + 1) [.int .i64 x, .int .i64 y]
  s2 : SlotN W (H + 1 + 1) [.int .i64 b1, .int .i64 b2]
  s3 : SlotN W g [.int .i64 u1, .int .i64 u2]
  hg : H + 1 + 1 < g
  hz : g < W.heap.size
theorem RNear.below {W W' : World} {H g : Nat} {x y b1 b2 u1 u2 : Int} (h : RNear W H g x y b1 b2 u1 u2) (hb : Below W.heap.size W W') : RNear W' H g x y b1 b2 u1 u2 :=
  have := h.hz
  have := h.hg
  ⟨h.s0.below hb (by omega), h.s1.below hb (by omega), h.s2.below hb (by omega), h.s3.below hb (by omega), h.hg, by have := hb.size; omega⟩
theorem RNear.best {W : World} {H g : Nat} {x y b1 b2 u1 u2 : Int} (h : RNear W H g x y b1 b2 u1 u2) : RNear ((W.setCell ⟨H + 1 + 1, 0, none⟩ (.int .i64 u1)).setCell ⟨H + 1 + 1, 1, none⟩ (.int .i64 u2)) H g x y u1 u2 u1 u2 := by
  have h1 := h.hg
  have hb : Below (H + 1 + 1) W ((W.setCell ⟨H + 1 + 1, 0, none⟩ (.int .i64 u1)).setCell ⟨H + 1 + 1, 1, none⟩ (.int .i64 u2)) := ((Below.refl _ _).setCell (p := ⟨H + 1 + 1, 0, none⟩) (Nat.le_refl _) _).setCell (p := ⟨H + 1 + 1, 1, none⟩) (Nat.le_refl _) _
  refine ⟨h.s0.below hb (by omega), h.s1.below hb (by omega), h.s2.set2 _ _, ⟨fun j u hj => ?_, fun j => by rw [World.frozen?_setCell, World.frozen?_setCell]; exact h.s3.f j⟩, h.hg, by simpa using h.hz⟩
  rw [World.cell?_setCell_other _ _ _ _ (by simp; first | done | omega), World.cell?_setCell_other _ _ _ _ (by simp; first | done | omega)]
  exact h.s3.c j u hj

set_option maxHeartbeats 1600000 in
theorem rnear_yes (A : Option Addr) (n c : Nat) (v : List Int) (q : Nat) (pad x y : Int) (w : World) (hI : Ints w w.heap.size A n v) (hn : n ≤ 1000) (hok : nearOk q pad v x y = true) :
    Calls Try.prog 10 #[.int .i64 q, .int .i64 pad, .slice A n c, .int .i64 x, .int .i64 y] w (NearFRes q pad v x y w) := by
  have hl := Lib.hid hI.length
  have HYES := Lib.hid (nearF_yes hok)
  unfold nearOk at hok
  simp only [Bool.and_eq_true, decide_eq_true_eq] at hok
  obtain ⟨⟨hlo, hpo⟩, ⟨⟨x0, x1⟩, y0⟩, y1⟩ := hok
  rw [hl.out] at y1
  have PI := pict_of hlo
  obtain ⟨hp0, hp1⟩ := padOk_iff.1 hpo
  have q1 := (levelOk_iff.1 hlo).1
  have q2 := (levelOk_iff.1 hlo).2.1
  have hh2 := PI.h2
  rw [hl.out] at hh2
  have hs0 := SlotN.new w [.int .i64 0, .int .i64 0] #[.int .i64 0, .int .i64 0] 24 rfl
  have hb0 : Below w.heap.size w (w.alloc (.cells #[.int .i64 0, .int .i64 0] 24)) := (Below.refl _ _).alloc (Nat.le_refl _) _
  have HV := Lib.hid (values_any w.heap.size A n c v q (w.alloc (.cells #[.int .i64 0, .int .i64 0] 24)) (hI.below hb0 (Nat.le_refl _)) hn ⟨by omega, by omega⟩)
  rw [hlo] at HV
  have dp0 : decide (pad < 0) = false := decide_eq_false (by omega)
  have dp1 : decide (8 < pad) = false := decide_eq_false (by omega)
  have dx0 : decide (x < 0) = false := decide_eq_false (by omega)
  have dx1 : decide ((q : Int) ≤ x) = false := decide_eq_false (by omega)
  have dy0 : decide (y < 0) = false := decide_eq_false (by omega)
  have dy1 : decide ((n : Int) / q ≤ y) = false := decide_eq_false (by omega)
  have n0 : 0 ≤ (n : Int) / q := Int.ediv_nonneg (by omega) (by omega)
  have n1 : (n : Int) / q ≤ 1000 := Int.le_trans (Int.ediv_le_self _ (by omega)) (by omega)
  clear hlo hpo
  go_enter Try.func10, Try.ntmps10
  go_wp2_with fail
  refine HV.out.mono ?_
  rintro e w1 ⟨rfl, rfl⟩
  clear HV
  go_wp2_with fail
  have hb3 : Below w.heap.size w (((w.alloc (.cells #[.int .i64 0, .int .i64 0] 24)).alloc (.cells #[.int .i64 x, .int .i64 y] 24)).alloc (.cells #[.int .i64 0, .int .i64 0] 24)) := (hb0.alloc (by simp) _).alloc (by simp; omega) _
  have hs1 := (SlotN.new (w.alloc (.cells #[.int .i64 0, .int .i64 0] 24)) [.int .i64 x, .int .i64 y] #[.int .i64 x, .int .i64 y] 24 rfl).below ((Below.refl (w.heap.size + 2) _).alloc (by simp) (.cells #[.int .i64 0, .int .i64 0] 24)) (by simp)
  have hs2 := SlotN.new ((w.alloc (.cells #[.int .i64 0, .int .i64 0] 24)).alloc (.cells #[.int .i64 x, .int .i64 y] 24)) [.int .i64 0, .int .i64 0] #[.int .i64 0, .int .i64 0] 24 rfl
  have hs0 := hs0.below (((Below.refl (w.heap.size + 1) _).alloc (by simp) (.cells #[.int .i64 x, .int .i64 y] 24)).alloc (by simp; first | done | omega) (.cells #[.int .i64 0, .int .i64 0] 24)) (by omega)
  simp only [World.size_alloc] at hs1 hs2
  go_loopw [14, 15] (fun far i wr => ∃ k : Nat, k ≤ n ∧ i = .int .i64 k ∧ far = .int .i64 (nearTo q v x y pad k).2 ∧ Hid (SlotN wr (w.heap.size + 1 + 1) [.int .i64 (nearTo q v x y pad k).1.x, .int .i64 (nearTo q v x y pad k).1.y]) ∧ Hid (SlotN wr (w.heap.size + 1) [.int .i64 x, .int .i64 y]) ∧ Hid (SlotN wr w.heap.size [.int .i64 0, .int .i64 0]) ∧ Below w.heap.size w wr ∧ w.heap.size + 3 ≤ wr.heap.size) (fun _ i _ => n - (intOf i).toNat)
  case atStart => exact ⟨0, by omega, rfl, rfl, Lib.hid hs2, Lib.hid hs1, Lib.hid hs0, hb3, by simp⟩
  case round =>
    obtain ⟨k, hk, rfl, rfl, h2, h1, h0, hbk, hzk⟩ := hrel
    clear hs0 hs1 hs2 hb3 hb0
    obtain ⟨⟨⟨b1, b2⟩, D⟩, hst⟩ : ∃ s, s = nearTo q v x y pad k := ⟨_, rfl⟩
    rw [← hst] at h2 ⊢
    simp only at h2 ⊢
    by_cases hlt : k < n
    · have hkl : k < v.length := by rw [hl.out]; exact hlt
      obtain ⟨ad, z, rfl, hb, hx, hm, hc, hlo, hhi⟩ := (hI.below hbk (Nat.le_refl _)).get hlt
      have hzv : v.getD k (-1) = z := by rw [List.getD_eq_getElem?_getD, hx]; rfl
      obtain ⟨r1, r2, r3, r4⟩ := PI.tx_range hkl
      rw [hl.out] at r4
      have hF : Hid (∀ W, Calls Try.prog 18 #[ptV ⟨x, y⟩, ptV (tx q k)] W fun e w' => e = .returned (.int .i64 (farS ⟨x, y⟩ (tx q k))) ∧ Below W.heap.size W w') := Lib.hid fun W => rfar_any ⟨x, y⟩ (tx q k) W ⟨⟨by simp only; omega, by simp only; omega⟩, ⟨by simp only; omega, by simp only; omega⟩⟩ ⟨⟨by omega, by omega⟩, ⟨by omega, by omega⟩⟩
      have hstep : nearTo q v x y pad (k + 1) = if 0 ≤ z ∧ farS ⟨x, y⟩ (tx q k) ≤ pad ∧ farS ⟨x, y⟩ (tx q k) < D then (tx q k, farS ⟨x, y⟩ (tx q k)) else (⟨b1, b2⟩, D) := by
        simp only [nearTo]
        rw [← hst, hzv]; rfl
      obtain ⟨F, hFe⟩ : ∃ F, F = farS ⟨x, y⟩ (tx q k) := ⟨_, rfl⟩
      rw [← hFe] at hF hstep
      unfold ptV at hF
      obtain ⟨⟨u1, u2⟩, hu⟩ : ∃ u, u = tx q k := ⟨_, rfl⟩
      rw [← hu] at hF hstep r1 r2 r3 r4
      simp only at hF r1 r2 r3 r4
      have hu1 : (k : Int) % q = u1 := by have := congrArg Pt.x hu; simp only [tx, Int.natCast_emod] at this; exact this.symm
      have hu2 : (k : Int) / q = u2 := by have := congrArg Pt.y hu; simp only [tx, Int.natCast_ediv] at this; exact this.symm
      have HFAR := hF
      have HST := Lib.hid hstep
      clear hF hFe hu hstep hst hx hm hzv
      have k0 : (0 : Int) ≤ (k : Int) := by omega
      have k1 : (k : Int) < (n : Int) := by omega
      have t0 : decide ((k : Int) < (n : Int)) = true := decide_eq_true k1
      have hq0 : ¬ (q : Int) = 0 := by omega
      have hq0n : ¬ q = 0 := by omega
      have hq0b : ((q : Int) == 0) = false := by simpa using hq0n
      have td : (k : Int).tdiv q = u2 := by rw [← hu2]; exact Int.tdiv_eq_ediv_of_nonneg k0
      have tm : (k : Int).tmod q = u1 := by rw [← hu1]; exact Int.tmod_eq_emod_of_nonneg k0
      have wd : IntKind.i64.wrap u2 = u2 := IntWalk.i64_in _ (by omega)
      have wm : IntKind.i64.wrap u1 = u1 := IntWalk.i64_in _ (by omega)
      go_wp2_with fail
      go_region
      clear hq0 hq0n hq0b td tm wd wm hu1 hu2
      obtain ⟨W, hW⟩ : ∃ W, W = wr.alloc (.cells #[.int .i64 u1, .int .i64 u2] 24) := ⟨_, rfl⟩
      have hbW : Below wr.heap.size wr W := by rw [hW]; exact (Below.refl _ _).alloc (Nat.le_refl _) _
      have hN : RNear W w.heap.size wr.heap.size x y b1 b2 u1 u2 := by
        refine ⟨h0.out.below hbW (by omega), h1.out.below hbW (by omega), h2.out.below hbW (by omega), ?_, by omega, by rw [hW]; simp⟩
        rw [hW]; exact SlotN.new wr _ _ _ rfl
      have hcW : W.drew.cell? (ad.add k) = some (.int .i64 z) := (hbW.cell (by rw [addr_block]; have := hbk.size; omega)).trans hc
      have hbkW : Below w.heap.size w W.drew := (hbk.trans (hbW.mono hbk.size)).drew
      rw [← hW]
      have hN : RNear W.drew w.heap.size wr.heap.size x y b1 b2 u1 u2 := hN.below (Below.refl _ _).drew
      clear hW hbW h0 h1 h2 hc
      generalize W.drew = W2 at hN hcW hbkW ⊢
      have p0 := hN.s1.c 0 _ rfl
      have p1 := hN.s1.c 1 _ rfl
      have p2 := hN.s3.c 0 _ rfl
      have p3 := hN.s3.c 1 _ rfl
      by_cases g1 : 0 ≤ z
      case neg =>
        have e1 : decide (0 ≤ z) = false := decide_eq_false g1
        have HK : Hid (nearTo q v x y pad (k + 1) = (⟨b1, b2⟩, D)) := Lib.hid (by rw [HST.out, if_neg (fun hh => g1 hh.1)])
        go_wp2_with fail
        go_roundw
        case rel => exact ⟨k + 1, by omega, by go_num, by rw [HK.out], Lib.hid (by rw [HK.out]; exact hN.s2), Lib.hid hN.s1, Lib.hid hN.s0, hbkW, by have := hN.hz; have := hN.hg; omega⟩
        case measure => simp only [intOf]; omega
      have e1 : decide (0 ≤ z) = true := decide_eq_true g1
      by_cases g2 : F ≤ pad
      case neg =>
        have e2 : decide (F ≤ pad) = false := decide_eq_false g2
        have HK : Hid (nearTo q v x y pad (k + 1) = (⟨b1, b2⟩, D)) := Lib.hid (by rw [HST.out, if_neg (fun hh => g2 hh.2.1)])
        go_wp2_with fail
        refine (HFAR.out _).mono ?_
        rintro e w5 ⟨rfl, hb5⟩
        have hN5 := hN.below hb5
        have hbk5 := hbkW.trans (hb5.mono hbkW.size)
        clear p0 p1 p2 p3
        go_wp2_with fail
        go_roundw
        case rel => exact ⟨k + 1, by omega, by go_num, by rw [HK.out], Lib.hid (by rw [HK.out]; exact hN5.s2), Lib.hid hN5.s1, Lib.hid hN5.s0, hbk5, by have := hN5.hz; have := hN5.hg; omega⟩
        case measure => simp only [intOf]; omega
      have e2 : decide (F ≤ pad) = true := decide_eq_true g2
      by_cases g3 : F < D
      case neg =>
        have e3 : decide (F < D) = false := decide_eq_false g3
        have HK : Hid (nearTo q v x y pad (k + 1) = (⟨b1, b2⟩, D)) := Lib.hid (by rw [HST.out, if_neg (fun hh => g3 hh.2.2)])
        go_wp2_with fail
        refine (HFAR.out _).mono ?_
        rintro e w5 ⟨rfl, hb5⟩
        have hN5 := hN.below hb5
        have hbk5 := hbkW.trans (hb5.mono hbkW.size)
        clear p0 p1 p2 p3
        have p0 := hN5.s1.c 0 _ rfl
        have p1 := hN5.s1.c 1 _ rfl
        have p2 := hN5.s3.c 0 _ rfl
        have p3 := hN5.s3.c 1 _ rfl
        go_wp2_with fail
        refine (HFAR.out _).mono ?_
        rintro e w6 ⟨rfl, hb6⟩
        have hN6 := hN5.below hb6
        have hbk6 := hbk5.trans (hb6.mono hbk5.size)
        clear p0 p1 p2 p3
        go_wp2_with fail
        go_roundw
        case rel => exact ⟨k + 1, by omega, by go_num, by rw [HK.out], Lib.hid (by rw [HK.out]; exact hN6.s2), Lib.hid hN6.s1, Lib.hid hN6.s0, hbk6, by have := hN6.hz; have := hN6.hg; omega⟩
        case measure => simp only [intOf]; omega
      have e3 : decide (F < D) = true := decide_eq_true g3
      have HK : Hid (nearTo q v x y pad (k + 1) = (⟨u1, u2⟩, F)) := Lib.hid (by rw [HST.out, if_pos ⟨g1, g2, g3⟩])
      go_wp2_with fail
      refine (HFAR.out _).mono ?_
      rintro e w5 ⟨rfl, hb5⟩
      have hN5 := hN.below hb5
      have hbk5 := hbkW.trans (hb5.mono hbkW.size)
      clear p0 p1 p2 p3
      have p0 := hN5.s1.c 0 _ rfl
      have p1 := hN5.s1.c 1 _ rfl
      have p2 := hN5.s3.c 0 _ rfl
      have p3 := hN5.s3.c 1 _ rfl
      go_wp2_with fail
      refine (HFAR.out _).mono ?_
      rintro e w6 ⟨rfl, hb6⟩
      have hN6 := hN5.below hb6
      have hbk6 := hbk5.trans (hb6.mono hbk5.size)
      clear p0 p1 p2 p3
      have hN7 := hN6.best
      have hbk7 : Below w.heap.size w ((w6.setCell ⟨w.heap.size + 1 + 1, 0, none⟩ (.int .i64 u1)).setCell ⟨w.heap.size + 1 + 1, 1, none⟩ (.int .i64 u2)) := (hbk6.setCell (p := ⟨w.heap.size + 1 + 1, 0, none⟩) (by simp; omega) _).setCell (p := ⟨w.heap.size + 1 + 1, 1, none⟩) (by simp; omega) _
      have m0 := hN6.s2.c 0 _ rfl
      have m1 := hN6.s2.c 1 _ rfl
      have m2 := hN6.s2.f 0
      have m3 := hN6.s2.f 1
      have m4 := hN6.s3.c 0 _ rfl
      have m5 := hN6.s3.c 1 _ rfl
      have hgne : wr.heap.size ≠ w.heap.size + 1 + 1 := by omega
      have p0 := hN6.s1.c 0 _ rfl
      have p1 := hN6.s1.c 1 _ rfl
      go_wp2_with fail
      refine (HFAR.out _).mono ?_
      rintro e w8 ⟨rfl, hb8⟩
      have hN8 := hN7.below hb8
      have hbk8 := hbk7.trans (hb8.mono (by simpa using hbk6.size))
      clear p0 p1 m0 m1 m2 m3 m4 m5 hN7 hbk7 hb8
      go_wp2_with fail
      go_roundw
      case rel => exact ⟨k + 1, by omega, by go_num, by rw [HK.out], Lib.hid (by rw [HK.out]; exact hN8.s2), Lib.hid hN8.s1, Lib.hid hN8.s0, hbk8, by have := hN8.hz; have := hN8.hg; omega⟩
      case measure => simp only [intOf]; omega
    · have t0 : decide ((k : Int) < (n : Int)) = false := decide_eq_false (by omega)
      obtain rfl : k = n := by omega
      have HNS : Hid (nearS q v x y pad = (⟨b1, b2⟩, decide (D < 1000))) := Lib.hid (by unfold nearS; rw [hl.out, ← hst])
      have m0 := h2.out.c 0 _ rfl
      have m1 := h2.out.c 1 _ rfl
      have p0 := h0.out.c 0 _ rfl
      have p1 := h0.out.c 1 _ rfl
      have p2 := h0.out.f 0
      have p3 := h0.out.f 1
      clear hst h1
      go_wp2_with fail
      refine bodyPost_ret (v := .tuple #[.agg #[.int .i64 b1, .int .i64 b2], .bool (decide (D < 1000))]) (by simp [results, Try.results10, go_sem, p0, p1]) rfl ⟨by rw [HYES.out, Int.toNat_natCast, HNS.out]; rfl, ?_⟩
      exact (hbk.setCell (p := ⟨w.heap.size, 0, none⟩) (Nat.le_refl _) _).setCell (p := ⟨w.heap.size, 1, none⟩) (Nat.le_refl _) _

theorem rnear_any (A : Option Addr) (n c : Nat) (v : List Int) (ww pad x y : Int) (w : World) (hI : Ints w w.heap.size A n v) (hn : n ≤ 1000) (bw : i64b ww) :
    Calls Try.prog 10 #[.int .i64 ww, .int .i64 pad, .slice A n c, .int .i64 x, .int .i64 y] w (NearFRes ww pad v x y w) := by
  cases h : nearOk ww pad v x y with
  | false => exact rnear_no A n c v ww pad x y w hI hn bw h
  | true =>
    have h1 := h
    unfold nearOk at h1
    simp only [Bool.and_eq_true] at h1
    obtain ⟨q, rfl⟩ : ∃ q : Nat, ww = q := ⟨ww.toNat, by have := (levelOk_iff.1 h1.1.1).1; omega⟩
    exact rnear_yes A n c v q pad x y w hI hn h
end Go.Proofs.Ytmkmmkpigpbkiaa
