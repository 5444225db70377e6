/-
  THE STEPS OF limewashref01.Add.
-/
import Derived.Test.YtcllghcplphijaaDoorWideRefC
import Derived.Deep.DeepCutAuto
set_option linter.unusedVariables false
set_option linter.unusedSimpArgs false
set_option maxRecDepth 8000
namespace Go.Proofs.YtcllghcplphijaaDoor
open Go.RowKit

theorem wsum_few {a b : Pt} (ha : a.b) (hb : b.b) : (wval a + wval b).natAbs < 10 ^ 100 := by
  have hv : wval a = a.x * 1000000000000000000 + a.y := rfl
  have hv2 : wval b = b.x * 1000000000000000000 + b.y := rfl
  unfold Pt.b i64b at ha hb
  exact Nat.lt_of_lt_of_le (show (wval a + wval b).natAbs < 10 ^ 40 by omega) (Nat.pow_le_pow_right (by decide) (by decide))
theorem wval_few' {a : Pt} (ha : a.b) : (wval a).natAbs < 10 ^ 100 := by
  have hv : wval a = a.x * 1000000000000000000 + a.y := rfl
  unfold Pt.b i64b at ha
  exact Nat.lt_of_lt_of_le (show (wval a).natAbs < 10 ^ 40 by omega) (Nat.pow_le_pow_right (by decide) (by decide))
theorem wadd_no' {l : List Pt} {p : Pt} (hm : p ∈ l) (h : wIs p = false) : wAdd l = (⟨0, 0⟩, 1) := by
  unfold wAdd
  rw [if_neg]
  intro hall
  have := List.all_eq_true.1 hall p hm
  rw [h] at this
  cases this
theorem wadd_yes' {l : List Pt} (h : ∀ p ∈ l, wIs p = true) : wAdd l = wSumF ⟨0, 0⟩ l := by
  unfold wAdd
  rw [if_pos (List.all_eq_true.2 h)]

/-- the numbers of two Wides, their sum, and what it is told as -/
structure SumK (a p : Pt) (r : Pt × Int) : Prop where
  k : ∃ b1 b2 b3 : Bool, (∀ W, Calls Tryd.prog 28 #[ptV a] W (NumB W b1 (wval a))) ∧ (∀ W, Calls Tryd.prog 28 #[ptV p] W (NumB W b2 (wval p))) ∧
    (∀ W A1 n1 c1 A2 n2 c2, NumAt W W.heap.size A1 n1 c1 (wval a) → NumAt W W.heap.size A2 n2 c2 (wval p) → Calls Tryd.prog 34 #[.agg #[.bool b1, .slice A1 n1 c1], .agg #[.bool b2, .slice A2 n2 c2]] W (NumB W b3 (wval a + wval p))) ∧
    (∀ W A n c, NumAt W W.heap.size A n c (wval a + wval p) → Calls Tryd.prog 40 #[.agg #[.bool b3, .slice A n c]] W (PE W r))
theorem sumK (a p : Pt) (ha : a.b) (hp : p.b) : SumK a p (wTold (wval a + wval p)) := by
  refine ⟨decide (wval a < 0), decide (wval p < 0), decide (wval a + wval p < 0), fun W => number_b a _ W ha rfl, fun W => number_b p _ W hp rfl, fun W A1 n1 c1 A2 n2 c2 h1 h2 => ?_, fun W A n c h => told_b _ _ rfl (wsum_few ha hp) W A n c h⟩
  exact sum_b A1 A2 n1 c1 n2 c2 _ _ _ _ _ W h1 h2 (h1.few (wval_few' ha)) (h2.few (wval_few' hp)) rfl rfl rfl

theorem keep4 {B : Nat} {w w' : World} {p1 p2 p3 p4 : Addr} {v1 v2 v3 v4 : Value} (h : w.cell? p1 = some v1 ∧ w.cell? p2 = some v2 ∧ w.cell? p3 = some v3 ∧ w.cell? p4 = some v4) (hp : p1.block < B ∧ p2.block < B ∧ p3.block < B ∧ p4.block < B) (hb : Below B w w') :
    w'.cell? p1 = some v1 ∧ w'.cell? p2 = some v2 ∧ w'.cell? p3 = some v3 ∧ w'.cell? p4 = some v4 :=
  ⟨(hb.cell hp.1).trans h.1, (hb.cell hp.2.1).trans h.2.1, (hb.cell hp.2.2.1).trans h.2.2.1, (hb.cell hp.2.2.2).trans h.2.2.2⟩
/-- a new variable that has been made along the way -/
def Got (W : World) (g : Nat) : Prop := SlotN W g [.int .i64 0, .int .i64 0] ∧ g < W.heap.size
theorem Got.new (W : World) : Got (W.alloc (.cells #[.int .i64 0, .int .i64 0] 23)) W.heap.size := ⟨SlotN.new _ _ _ _ rfl, by simp⟩
theorem Got.below {W W' : World} {g : Nat} (h : Got W g) (hb : Below W.heap.size W W') : Got W' g := ⟨h.1.below hb h.2, Nat.lt_of_lt_of_le h.2 hb.size⟩
theorem NumAt.go {W W' : World} {A : Option Addr} {n c : Nat} {x : Int} (h : NumAt W W.heap.size A n c x) (hb : Below W.heap.size W W') : NumAt W' W'.heap.size A n c x := (h.below hb (Nat.le_refl _)).more hb.size
theorem NumAt.al {W : World} {A : Option Addr} {n c : Nat} {x : Int} (h : NumAt W W.heap.size A n c x) (o : Obj) : NumAt (W.alloc o) (W.alloc o).heap.size A n c x := h.go ((Below.refl _ _).alloc (Nat.le_refl _) o)
theorem NumAt.go2 {W W' : World} {A : Option Addr} {n c : Nat} {x : Int} {o : Obj} (h : NumAt W W.heap.size A n c x) (hb : Below (W.alloc o).heap.size (W.alloc o) W') : NumAt W' W'.heap.size A n c x := (h.al o).go hb

set_option maxHeartbeats 6400000 in
theorem radd_any (A : Option Addr) (n c : Nat) (l : List Pt) (w : World) (hP : Pts w w.heap.size A n l) :
    Calls Tryd.prog 23 #[.slice A n c] w (PE w (wAdd l)) := by
  have hn := hP.len
  have HI := Lib.hid (fun (p : Pt) W (hp : p.b) => ris_any p W hp)
  have fin : ∀ (r : Pt × Int), wAdd l = r → ∀ w', Below w.heap.size w w' → PE w (wAdd l) (.returned (.tuple #[.agg #[.int .i64 r.1.x, .int .i64 r.1.y], .int .i64 r.2])) w' := fun r hr w' hb => by rw [hr]; exact ⟨rfl, hb⟩
  have FIN := Lib.hid fin; clear fin
  generalize hQ : PE w (wAdd l) = Q at FIN ⊢
  clear hQ
  go_enter Tryd.func23, Tryd.ntmps23
  go_wp2_with fail
  go_loopw [4] (fun i wr => ∃ k : Nat, k ≤ n ∧ i = .int .i64 k ∧ Hid (∀ p ∈ l.take k, wIs p = true) ∧ Hid (SlotN wr w.heap.size [.int .i64 0, .int .i64 0]) ∧ Below w.heap.size w wr ∧ w.heap.size + 1 ≤ wr.heap.size) (fun i _ => n - (intOf i).toNat)
  case atStart =>
    exact ⟨0, Nat.zero_le _, rfl, Lib.hid (by simp), Lib.hid (SlotN.new _ _ _ _ rfl), (Below.refl _ _).alloc (Nat.le_refl _) _, by simp⟩
  case round =>
    obtain ⟨k, hk, rfl, hall, hs, hbk, hzk⟩ := hrel
    by_cases hlt : k < n
    · obtain ⟨ad, p, rfl, hb, hx, hm, hpb, hc0, hc1⟩ := (hP.below hbk (Nat.le_refl _)).get hlt
      obtain ⟨px, py⟩ := p
      have HX := Lib.hid hx; clear hx
      have HM := Lib.hid hm; clear hm
      have hI := HI.out ⟨px, py⟩ wr hpb
      unfold ptV at hI
      simp only at hc0 hc1 hI
      cases hi : wIs ⟨px, py⟩ with
      | false =>
        rw [hi] at hI
        have HNO := Lib.hid (wadd_no' HM.out hi); clear hi
        have HII := Lib.hid hI; clear hI
        go_wp2_with fail
        refine HII.out.mono ?_
        clear HII
        rintro e w1 ⟨rfl, hb1⟩
        have hs1 := hs.out.below hb1 (by omega)
        have HB := Lib.hid (hbk.trans (hb1.mono (by omega)))
        clear hb1
        have d0 := hs1.c 0 _ rfl
        have d1 := hs1.c 1 _ rfl
        have f0 := hs1.f 0
        have f1 := hs1.f 1
        have S2 := Lib.hid (hs1.set2 (.int .i64 0) (.int .i64 0))
        clear hs1
        go_wp2_with fail
        obtain ⟨a0, a1⟩ := (⟨S2.out.c 0 _ rfl, S2.out.c 1 _ rfl⟩ : _ ∧ _)
        refine bodyPost_ret (v := .tuple #[.agg #[.int .i64 0, .int .i64 0], .int .i64 1]) (by simp [results, Tryd.results23, go_sem, a0, a1]) rfl (FIN.out _ HNO.out _ ?_)
        exact (HB.out.setCell (by simp) _).setCell (by simp) _
      | true =>
        rw [hi] at hI
        have HYES := Lib.hid hi; clear hi
        have HII := Lib.hid hI; clear hI
        go_wp2_with fail
        refine HII.out.mono ?_
        clear HII
        rintro e w1 ⟨rfl, hb1⟩
        have hs1 := Lib.hid (hs.out.below hb1 (by omega))
        have HB := Lib.hid (hbk.trans (hb1.mono (by omega)))
        have hz1 := hb1.size
        clear hb1
        go_wp2_with fail
        go_roundw
        case rel =>
          refine ⟨k + 1, by omega, by go_num, Lib.hid fun p hp => ?_, hs1, HB.out, by omega⟩
          rw [take_snoc' _ _ _ HX.out] at hp
          rcases List.mem_append.1 hp with hp | hp
          · exact hall.out p hp
          · rw [List.mem_singleton.1 hp]; exact HYES.out
        case measure => simp [intOf]; omega
    · have hkn : n = k := by omega
      subst hkn
      have HALL : Hid (∀ p ∈ l, wIs p = true) := Lib.hid (by
        have := hall.out
        rwa [List.take_of_length_le (by rw [hP.length]; omega)] at this)
      clear hall hk
      generalize wr = W1 at hs hbk hzk ⊢
      have hs0 := Lib.hid (hs.out.below ((Below.refl (w.heap.size + 1) W1).alloc hzk (.cells #[.int .i64 0, .int .i64 0] 23)) (Nat.lt_succ_self _))
      have ho0 := Lib.hid (SlotN.new W1 [.int .i64 0, .int .i64 0] #[.int .i64 0, .int .i64 0] 23 rfl)
      have hb0 := hbk.alloc (by omega) (.cells #[.int .i64 0, .int .i64 0] 23)
      have hwr : w.heap.size + 1 ≤ W1.heap.size := hzk
      go_wp2_with fail
      go_loopw [6] (fun i ws => ∃ (k : Nat) (out : Pt), k ≤ n ∧ i = .int .i64 k ∧ Hid (SlotN ws w.heap.size [.int .i64 0, .int .i64 0]) ∧ Hid (SlotN ws W1.heap.size [.int .i64 out.x, .int .i64 out.y]) ∧ out.b ∧ Hid (wSumF out (l.drop k) = wSumF ⟨0, 0⟩ l) ∧ Below w.heap.size w ws ∧ W1.heap.size + 1 ≤ ws.heap.size) (fun i _ => n - (intOf i).toNat)
      case atStart =>
        exact ⟨0, ⟨0, 0⟩, Nat.zero_le _, rfl, hs0, ho0, by unfold Pt.b i64b; decide, Lib.hid rfl, hb0, by simp⟩
      case round =>
        obtain ⟨k, out, hk, rfl, hsk, hok, hob, hgo, hbs, hzs⟩ := hrel
        clear hs0 ho0 hb0
        by_cases hlt : k < n
        · obtain ⟨ad, p, rfl, hb, hx, hm, hpb, hc0, hc1⟩ := (hP.below hbs (Nat.le_refl _)).get hlt
          obtain ⟨ox, oy⟩ := out
          obtain ⟨px, py⟩ := p
          obtain ⟨b1, b2, b3, k1, k2, k3, k4⟩ := (sumK ⟨ox, oy⟩ ⟨px, py⟩ hob hpb).k
          have hstep : Hid (l.drop k = ⟨px, py⟩ :: l.drop (k + 1)) := Lib.hid (drop_cons' _ _ _ hx)
          clear hx hm
          obtain ⟨⟨⟨rx, ry⟩, re⟩, hr⟩ : ∃ r, wTold (wval ⟨ox, oy⟩ + wval ⟨px, py⟩) = r := ⟨_, rfl⟩
          have HR := Lib.hid hr
          rw [hr] at k4
          clear hr
          have hc' := hgo.out
          rw [hstep.out] at hc'
          simp only [wSumF, HR.out] at hc'
          have hrb : Hid ((⟨rx, ry⟩ : Pt).b) := Lib.hid (by have := wTold_b (wval ⟨ox, oy⟩ + wval ⟨px, py⟩); rw [HR.out] at this; exact this)
          have K1 := Lib.hid k1; clear k1
          have K2 := Lib.hid k2; clear k2
          have K3 := Lib.hid k3; clear k3
          have K4 := Lib.hid k4; clear k4
          generalize wval ⟨ox, oy⟩ = v1 at *
          generalize wval ⟨px, py⟩ = v2 at *
          unfold PE ptV at K4
          unfold ptV at K1 K2
          simp only at K1 K2 K4 hc0 hc1
          have a0 := hok.out.c 0 _ rfl
          have a1 := hok.out.c 1 _ rfl
          simp only at a0 a1
          have HC := Lib.hid hc'; clear hc'
          have hadb : (ad.add (k * 2)).block < w.heap.size := by rw [addr_block]; exact hb
          have hzw := hbs.size
          have HS : Hid (wr.cell? ⟨W1.heap.size, 0, none⟩ = some (.int .i64 ox) ∧ wr.cell? ⟨W1.heap.size, 1, none⟩ = some (.int .i64 oy) ∧ wr.cell? (ad.add (k * 2)) = some (.int .i64 px) ∧ wr.cell? ⟨(ad.add (k * 2)).block, (ad.add (k * 2)).off + 1, none⟩ = some (.int .i64 py)) := Lib.hid ⟨a0, a1, hc0, hc1⟩
          have HP : Hid (W1.heap.size < wr.heap.size ∧ W1.heap.size < wr.heap.size ∧ (ad.add (k * 2)).block < wr.heap.size ∧ (ad.add (k * 2)).block < wr.heap.size) := Lib.hid ⟨by omega, by omega, by omega, by omega⟩
          go_upto_region 10 with fail
          go_cut [7, 8] (fun s7 s8 wx => ∃ g, s7 = .pointer (some ⟨g, 0, none⟩) ∧ s8 = .int .i64 re ∧ wr.heap.size ≤ g ∧ g < wx.heap.size ∧ Hid (SlotN wx g [.int .i64 rx, .int .i64 ry]) ∧ Below wr.heap.size wr wx)
          case first =>
            go_region_held3 (fun w' => w'.cell? ⟨W1.heap.size, 0, none⟩ = some (.int .i64 ox) ∧ w'.cell? ⟨W1.heap.size, 1, none⟩ = some (.int .i64 oy) ∧ w'.cell? (ad.add (k * 2)) = some (.int .i64 px) ∧ w'.cell? ⟨(ad.add (k * 2)).block, (ad.add (k * 2)).off + 1, none⟩ = some (.int .i64 py))
              (first | exact keep4 HS.out HP.out ((Below.refl _ wr).drew) | exact keep4 HS.out HP.out ((Below.refl _ wr).drew.alloc (Nat.le_refl _) _) | exact keep4 HS.out HP.out hby | exact keep4 HS.out HP.out (hby.alloc hby.size _) | exact keep4 HS.out HP.out ((hby.setCell (by dsimp only; omega) _).setCell (by dsimp only; omega) _))
              (first
    | (go_at_call 28; refine (K1.out _).mono ?_; clear K1; rintro e w1 ⟨A1, n1, c1, rfl, hN1, hp1, hx1⟩; have hby : Below wr.heap.size wr w1 := (by first | exact (Below.refl _ wr).drew.trans (hx1.mono (by simp)) | exact ((Below.refl _ wr).drew.alloc (Nat.le_refl _) _).trans (hx1.mono (by simp))); (have hs1 := hby.size); (try have hG : Got w1 wr.heap.size := (Got.new wr.drew).below hx1))
    | (go_at_call 28; refine (K2.out _).mono ?_; clear K2; rintro e w2 ⟨A2, n2, c2, rfl, hN2, hp2, hx2⟩; (have hby : Below wr.heap.size wr w2 := by first | exact hby.trans (hx2.mono hby.size) | exact (hby.alloc hby.size _).trans (hx2.mono (by have := hby.size; simp; omega))); (have hs2 := hby.size); (have hM1 : NumAt w2 w2.heap.size A1 n1 c1 v1 := by first | exact hN1.go hx2 | exact hN1.go2 hx2); (try have hG := hG.below hx2); (try have hG : Got w2 w1.heap.size := (Got.new w1).below hx2))
    | (go_at_call 34; refine (K3.out _ _ _ _ _ _ _ (by first | exact hM1 | exact hM1.al _) (by first | exact hN2 | exact hN2.al _)).mono ?_; clear K3; rintro e w3 ⟨A3, n3, c3, rfl, hN3, hp3, hx3⟩; (have hby : Below wr.heap.size wr w3 := by first | exact hby.trans (hx3.mono hby.size) | exact (hby.alloc hby.size _).trans (hx3.mono (by have := hby.size; simp; omega))); (have hs3 := hby.size); (try have hG := hG.below hx3); (try have hG : Got w3 w2.heap.size := (Got.new w2).below hx3))
    | (go_at_call 40; refine (K4.out _ _ _ _ (by first | exact hN3 | exact hN3.al _)).mono ?_; clear K4; rintro e w4 ⟨rfl, hx4⟩; (have hby : Below wr.heap.size wr w4 := by first | exact hby.trans (hx4.mono hby.size) | exact (hby.alloc hby.size _).trans (hx4.mono (by have := hby.size; simp; omega))); (have hs4 := hby.size); (try have hG := hG.below hx4); (try have hG : Got w4 w3.heap.size := (Got.new w3).below hx4); (try (have g0 := hG.1.c 0 _ rfl; have g1 := hG.1.c 1 _ rfl; have g2 := hG.1.f 0; have g3 := hG.1.f 1; have g4 := hG.2))))
            · have HG := Got.below (W := w4.alloc (.cells #[.int .i64 0, .int .i64 0] 23)) (Got.new w4) (Below.refl _ _)
              go_wp2_with fail
              go_meet
              exact ⟨w4.heap.size, rfl, rfl, hs4, by simp, Lib.hid (SlotN.new _ _ _ _ rfl), hby.alloc hby.size _⟩
            all_goals
              have HF := hG.1.set2 (.int .i64 rx) (.int .i64 ry)
              go_wp2_with fail
              go_meet
              exact ⟨_, rfl, rfl, by omega, by simp; omega, Lib.hid HF, (hby.setCell (by simp only; omega) _).setCell (by simp only; omega) _⟩
          case rest =>
            obtain ⟨g, rfl, rfl, hg1, hg2, HG, hbc⟩ := hcut
            have HG0 := HG.out
            have hsk1 := Lib.hid (hsk.out.below hbc (by omega))
            have hok1 := hok.out.below hbc (by omega)
            have HB := Lib.hid (hbs.trans (hbc.mono hbs.size))
            have hzc := hbc.size
            clear hok hsk a0 a1 hc0 hc1 HS HP hbc
            by_cases he : re = 0
            · subst he
              have hc' := HC.out
              simp only [if_true] at hc'
              have HC2 := Lib.hid hc'; clear hc' HC
              have R1 := Lib.hid ((hsk1.out.set_other ⟨W1.heap.size, 0, none⟩ (.int .i64 rx) (by simp only; omega)).set_other ⟨W1.heap.size, 1, none⟩ (.int .i64 ry) (by simp only; omega))
              have R2 := Lib.hid (hok1.set2 (.int .i64 rx) (.int .i64 ry))
              have R3 := Lib.hid ((HB.out.setCell (p := ⟨W1.heap.size, 0, none⟩) (by simp only; omega) (.int .i64 rx)).setCell (p := ⟨W1.heap.size, 1, none⟩) (by simp only; omega) (.int .i64 ry))
              have u0 := HG0.c 0 _ rfl
              have u1 := HG0.c 1 _ rfl
              have a0 := hok1.c 0 _ rfl
              have a1 := hok1.c 1 _ rfl
              have f0 := hok1.f 0
              have f1 := hok1.f 1
              clear HG0 hok1 HG
              go_wp2_with fail
              go_roundw
              case rel => exact ⟨k + 1, ⟨rx, ry⟩, by omega, by go_num, R1, R2, hrb.out, HC2, R3.out, by simp; omega⟩
              case measure => simp [intOf]; omega
            · have q1 : (re == 0) = false := by simpa using he
              have q2 : (re != 0) = true := by simpa using he
              have hc' := HC.out
              rw [if_neg he] at hc'
              have HC2 : Hid (wAdd l = (⟨0, 0⟩, re)) := Lib.hid (by rw [wadd_yes' HALL.out, ← hc'])
              clear hc' HC HG0 HG hok1
              have d0 := hsk1.out.c 0 _ rfl
              have d1 := hsk1.out.c 1 _ rfl
              have f0 := hsk1.out.f 0
              have f1 := hsk1.out.f 1
              have S2 := Lib.hid (hsk1.out.set2 (.int .i64 0) (.int .i64 0))
              go_wp2_with fail
              obtain ⟨a0, a1⟩ := (⟨S2.out.c 0 _ rfl, S2.out.c 1 _ rfl⟩ : _ ∧ _)
              refine bodyPost_ret (v := .tuple #[.agg #[.int .i64 0, .int .i64 0], .int .i64 re]) (by simp [results, Tryd.results23, go_sem, a0, a1]) rfl (FIN.out _ HC2.out _ ?_)
              exact (HB.out.setCell (by simp) _).setCell (by simp) _
        · obtain ⟨ox, oy⟩ := out
          have HC : Hid (wAdd l = (⟨ox, oy⟩, 0)) := Lib.hid (by
            have := hgo.out
            rw [List.drop_of_length_le (by rw [hP.length]; omega)] at this
            rw [wadd_yes' HALL.out, ← this]; rfl)
          have a0 := hok.out.c 0 _ rfl
          have a1 := hok.out.c 1 _ rfl
          have d0 := hsk.out.c 0 _ rfl
          have d1 := hsk.out.c 1 _ rfl
          have f0 := hsk.out.f 0
          have f1 := hsk.out.f 1
          have S2 := Lib.hid (hsk.out.set2 (.int .i64 ox) (.int .i64 oy))
          simp only at a0 a1
          go_wp2_with fail
          obtain ⟨b0, b1⟩ := (⟨S2.out.c 0 _ rfl, S2.out.c 1 _ rfl⟩ : _ ∧ _)
          refine bodyPost_ret (v := .tuple #[.agg #[.int .i64 ox, .int .i64 oy], .int .i64 0]) (by simp [results, Tryd.results23, go_sem, b0, b1]) rfl (FIN.out _ HC.out _ ?_)
          exact (hbs.setCell (by simp) _).setCell (by simp) _
end Go.Proofs.YtcllghcplphijaaDoor
