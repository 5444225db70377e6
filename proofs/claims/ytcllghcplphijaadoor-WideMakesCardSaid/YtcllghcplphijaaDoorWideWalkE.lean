/-
  THE STEPS OF wide.Add.
-/
import Derived.Test.YtcllghcplphijaaDoorWideWalkD
set_option linter.unusedVariables false
set_option linter.unusedSimpArgs false
namespace Go.Proofs.YtcllghcplphijaaDoor
open Go.RowKit

theorem wadd_no {l : List Pt} {p : Pt} (hm : p ∈ l) (h : wIs p = false) : wAdd l = (⟨0, 0⟩, 1) := by
  unfold wAdd
  rw [if_neg]
  intro hall
  have := List.all_eq_true.1 hall p hm
  rw [h] at this
  cases this
theorem wadd_yes {l : List Pt} (h : ∀ p ∈ l, wIs p = true) : wAdd l = wSumF ⟨0, 0⟩ l := by
  unfold wAdd
  rw [if_pos (List.all_eq_true.2 h)]

set_option maxHeartbeats 1600000 in
theorem wadd_any (A : Option Addr) (n c : Nat) (l : List Pt) (w : World) (hP : Pts w w.heap.size A n l) :
    Calls Tryd.prog 22 #[.slice A n c] w (PE w (wAdd l)) := by
  have hn := hP.len
  have HI := Lib.hid (fun (p : Pt) W (hp : p.b) => is_any p W hp)
  have HSUM := Lib.hid (fun (a p : Pt) W (ha : a.b) (hp : p.b) (ia : wIs a = true) (ip : wIs p = true) => wsum_any a p W ha hp ia ip)
  have fin : ∀ (r : Pt × Int), wAdd l = r → ∀ w', Below w.heap.size w w' → PE w (wAdd l) (.returned (.tuple #[.agg #[.int .i64 r.1.x, .int .i64 r.1.y], .int .i64 r.2])) w' := fun r hr w' hb => by rw [hr]; exact ⟨rfl, hb⟩
  have FIN := Lib.hid fin; clear fin
  generalize hQ : PE w (wAdd l) = Q at FIN ⊢
  clear hQ
  go_enter Tryd.func22, Tryd.ntmps22
  go_wp2_with fail
  go_loopw [12] (fun i wr => ∃ k : Nat, k ≤ n ∧ i = .int .i64 k ∧ Hid (∀ p ∈ l.take k, wIs p = true) ∧ Hid (SlotN wr w.heap.size [.int .i64 0, .int .i64 0]) ∧ Below w.heap.size w wr ∧ w.heap.size + 1 ≤ wr.heap.size) (fun i _ => n - (intOf i).toNat)
  case atStart =>
    exact ⟨0, Nat.zero_le _, rfl, Lib.hid (by simp), Lib.hid (SlotN.new _ _ _ _ rfl), (Below.refl _ _).alloc (Nat.le_refl _) _, by simp⟩
  case round =>
    obtain ⟨k, hk, rfl, hall, hs, hbk, hzk⟩ := hrel
    by_cases hlt : k < n
    · obtain ⟨ad, p, rfl, hb, hx, hm, hpb, hc0, hc1⟩ := (hP.below hbk (Nat.le_refl _)).get hlt
      obtain ⟨px, py⟩ := p
      have HX := Lib.hid hx; clear hx
      have HM := Lib.hid hm; clear hm
      have hsp := (SlotN.new wr [.int .i64 px, .int .i64 py] #[.int .i64 px, .int .i64 py] 23 rfl)
      have hI := HI.out ⟨px, py⟩ (wr.alloc (.cells #[.int .i64 px, .int .i64 py] 23)) hpb
      unfold ptV at hI
      simp only at hc0 hc1 hI
      cases hi : wIs ⟨px, py⟩ with
      | false =>
        rw [hi] at hI
        have HNO := Lib.hid (wadd_no HM.out hi); clear hi
        have HII := Lib.hid hI; clear hI
        go_wp2_with fail
        refine HII.out.mono ?_
        clear HII
        rintro e w1 ⟨rfl, hb1⟩
        have hs1 := (hs.out.below ((Below.refl (w.heap.size + 1) wr).alloc hzk _) (Nat.lt_succ_self _)).below hb1 (by simp; omega)
        have HB := Lib.hid ((hbk.alloc (by omega) (.cells #[.int .i64 px, .int .i64 py] 23)).trans (hb1.mono (by simp; omega)))
        clear hb1 hsp
        have d0 := hs1.c 0 _ rfl
        have d1 := hs1.c 1 _ rfl
        have f0 := hs1.f 0
        have f1 := hs1.f 1
        have S2 := Lib.hid (hs1.set2 (.int .i64 0) (.int .i64 0))
        clear hs1
        go_wp2_with fail
        obtain ⟨a0, a1⟩ := (⟨S2.out.c 0 _ rfl, S2.out.c 1 _ rfl⟩ : _ ∧ _)
        refine bodyPost_ret (v := .tuple #[.agg #[.int .i64 0, .int .i64 0], .int .i64 1]) (by simp [results, Tryd.results22, go_sem, a0, a1]) rfl (FIN.out _ HNO.out _ ?_)
        exact (HB.out.setCell (by simp) _).setCell (by simp) _
      | true =>
        rw [hi] at hI
        have HYES := Lib.hid hi; clear hi
        have HII := Lib.hid hI; clear hI
        go_wp2_with fail
        refine HII.out.mono ?_
        clear HII
        rintro e w1 ⟨rfl, hb1⟩
        have hs1 := Lib.hid ((hs.out.below ((Below.refl (w.heap.size + 1) wr).alloc hzk _) (Nat.lt_succ_self _)).below hb1 (by simp; omega))
        have HB := Lib.hid ((hbk.alloc (by omega) (.cells #[.int .i64 px, .int .i64 py] 23)).trans (hb1.mono (by simp; omega)))
        have hz1 := hb1.size
        simp at hz1
        clear hb1 hsp
        go_wp2_with fail
        go_roundw
        case rel =>
          refine ⟨k + 1, by omega, by go_num, Lib.hid fun p hp => ?_, hs1, HB.out, by omega⟩
          rw [take_snoc' _ _ _ HX.out] at hp
          rcases List.mem_append.1 hp with hp | hp
          · exact hall.out p hp
          · rw [List.mem_singleton.1 hp]; exact HYES.out
        case measure => simp [intOf]; omega
    · have hkn : n = k := by omega
      subst hkn
      have HALL : Hid (∀ p ∈ l, wIs p = true) := Lib.hid (by
        have := hall.out
        rwa [List.take_of_length_le (by rw [hP.length]; omega)] at this)
      clear hall hk
      generalize wr = W1 at hs hbk hzk ⊢
      have hs0 := Lib.hid (hs.out.below ((Below.refl (w.heap.size + 1) W1).alloc hzk (.cells #[.int .i64 0, .int .i64 0] 23)) (Nat.lt_succ_self _))
      have ho0 := Lib.hid (SlotN.new W1 [.int .i64 0, .int .i64 0] #[.int .i64 0, .int .i64 0] 23 rfl)
      have hb0 := hbk.alloc (by omega) (.cells #[.int .i64 0, .int .i64 0] 23)
      have hwr : w.heap.size + 1 ≤ W1.heap.size := hzk
      go_wp2_with fail
      go_loopw [7, 23] (fun e i ws => ∃ (k : Nat) (out : Pt), k ≤ n ∧ i = .int .i64 k ∧ e = .int .i64 0 ∧ Hid (SlotN ws w.heap.size [.int .i64 0, .int .i64 0]) ∧ Hid (SlotN ws W1.heap.size [.int .i64 out.x, .int .i64 out.y]) ∧ Hid (wIs out = true) ∧ out.b ∧ Hid (wSumF out (l.drop k) = wSumF ⟨0, 0⟩ l) ∧ Below w.heap.size w ws ∧ W1.heap.size + 1 ≤ ws.heap.size) (fun _ i _ => n - (intOf i).toNat)
      case atStart =>
        exact ⟨0, ⟨0, 0⟩, Nat.zero_le _, rfl, rfl, hs0, ho0, Lib.hid (by decide), by unfold Pt.b i64b; decide, Lib.hid rfl, hb0, by simp⟩
      case round =>
        obtain ⟨k, out, hk, rfl, rfl, hsk, hok, hik, hob, hgo, hbs, hzs⟩ := hrel
        clear hs0 ho0 hb0
        by_cases hlt : k < n
        · obtain ⟨ad, p, rfl, hb, hx, hm, hpb, hc0, hc1⟩ := (hP.below hbs (Nat.le_refl _)).get hlt
          have hip := HALL.out p hm
          obtain ⟨ox, oy⟩ := out
          obtain ⟨px, py⟩ := p
          have hsum := HSUM.out ⟨ox, oy⟩ ⟨px, py⟩ (wr.alloc (.cells #[.int .i64 px, .int .i64 py] 23)) hob hpb hik.out hip
          have hstep : Hid (l.drop k = ⟨px, py⟩ :: l.drop (k + 1)) := Lib.hid (drop_cons' _ _ _ hx)
          clear hx hm hip
          obtain ⟨⟨⟨rx, ry⟩, re⟩, hr⟩ : ∃ r, wTold (wval ⟨ox, oy⟩ + wval ⟨px, py⟩) = r := ⟨_, rfl⟩
          have HR := Lib.hid hr
          rw [hr] at hsum
          clear hr
          have hc' := hgo.out
          rw [hstep.out] at hc'
          simp only [wSumF, HR.out] at hc'
          have hrb : Hid ((⟨rx, ry⟩ : Pt).b) := Lib.hid (by have := wTold_b (wval ⟨ox, oy⟩ + wval ⟨px, py⟩); rw [HR.out] at this; exact this)
          unfold PE ptV at hsum
          simp only at hsum hc0 hc1
          have HSM := Lib.hid hsum; clear hsum
          have hok1 := Lib.hid (hok.out.below ((Below.refl (W1.heap.size + 1) wr).alloc hzs (.cells #[.int .i64 px, .int .i64 py] 23)) (Nat.lt_succ_self _))
          have hsk1 := Lib.hid (hsk.out.below ((Below.refl (W1.heap.size + 1) wr).alloc hzs (.cells #[.int .i64 px, .int .i64 py] 23)) (by omega))
          have HB0 := Lib.hid (hbs.alloc (by omega) (.cells #[.int .i64 px, .int .i64 py] 23))
          have a0 := hok1.out.c 0 _ rfl
          have a1 := hok1.out.c 1 _ rfl
          have hzw : (wr.alloc (.cells #[.int .i64 px, .int .i64 py] 23)).heap.size = wr.heap.size + 1 := by simp
          by_cases he : re = 0
          · subst he
            have hir : Hid (wIs ⟨rx, ry⟩ = true) := Lib.hid (by
              have h0 := wTold_zero (n := wval ⟨ox, oy⟩ + wval ⟨px, py⟩) (by rw [HR.out])
              have h1 := HR.out
              rw [h0.1] at h1
              injection h1 with h1 _
              rw [← h1]; exact h0.2)
            simp only [if_true] at hc'
            have HC := Lib.hid hc'; clear hc'
            go_wp2_with fail
            refine HSM.out.mono ?_
            clear HSM
            rintro e w1 ⟨rfl, hb1⟩
            have hok2 := hok1.out.below hb1 (by omega)
            have hsk2 := Lib.hid (hsk1.out.below hb1 (by omega))
            have HB := Lib.hid (HB0.out.trans (hb1.mono (by omega)))
            have hz1 := hb1.size
            rw [hzw] at hz1
            clear hb1 a0 a1 hok1 hsk1 HB0 hzw
            have b0 := hok2.c 0 _ rfl
            have b1 := hok2.c 1 _ rfl
            have g0 := hok2.f 0
            have g1 := hok2.f 1
            have S2 := Lib.hid (hok2.set2 (.int .i64 rx) (.int .i64 ry))
            clear hok2
            go_wp2_with fail
            go_roundw
            case rel =>
              refine ⟨k + 1, ⟨rx, ry⟩, by omega, by go_num, rfl, Lib.hid ?_, S2, hir, hrb.out, HC, (HB.out.setCell (by simp only; omega) _).setCell (by simp only; omega) _, by simp; omega⟩
              exact hsk2.out.below (((Below.refl W1.heap.size w1).setCell (by exact Nat.le_refl _) _).setCell (by exact Nat.le_refl _) _) (by omega)
            case measure => simp [intOf]; omega
          · have t0 : (re != 0) = true := by simp [he]
            rw [if_neg he] at hc'
            have HC : Hid (wAdd l = (⟨0, 0⟩, re)) := Lib.hid (by rw [wadd_yes HALL.out, ← hc'])
            clear hc' he
            go_wp2_with fail
            refine HSM.out.mono ?_
            clear HSM
            rintro e w1 ⟨rfl, hb1⟩
            have hok2 := hok1.out.below hb1 (by omega)
            have hsk2 := hsk1.out.below hb1 (by omega)
            have HB := Lib.hid (HB0.out.trans (hb1.mono (by omega)))
            clear hb1 a0 a1 hok1 hsk1 HB0 hzw
            have b0 := hok2.c 0 _ rfl
            have b1 := hok2.c 1 _ rfl
            have g0 := hok2.f 0
            have g1 := hok2.f 1
            have hsk3 := hsk2.below (((Below.refl W1.heap.size w1).setCell (p := ⟨W1.heap.size, 0, none⟩) (by exact Nat.le_refl _) (.int .i64 rx)).setCell (p := ⟨W1.heap.size, 1, none⟩) (by exact Nat.le_refl _) (.int .i64 ry)) (by omega)
            have HB3 := Lib.hid ((HB.out.setCell (p := ⟨W1.heap.size, 0, none⟩) (by simp only; omega) (.int .i64 rx)).setCell (p := ⟨W1.heap.size, 1, none⟩) (by simp only; omega) (.int .i64 ry))
            clear hok2 hsk2 HB
            have d0 := hsk3.c 0 _ rfl
            have d1 := hsk3.c 1 _ rfl
            have f0 := hsk3.f 0
            have f1 := hsk3.f 1
            have S2 := Lib.hid (hsk3.set2 (.int .i64 0) (.int .i64 0))
            clear hsk3
            go_wp2_with fail
            obtain ⟨a0, a1⟩ := (⟨S2.out.c 0 _ rfl, S2.out.c 1 _ rfl⟩ : _ ∧ _)
            refine bodyPost_ret (v := .tuple #[.agg #[.int .i64 0, .int .i64 0], .int .i64 re]) (by simp [results, Tryd.results22, go_sem, a0, a1]) rfl (FIN.out _ HC.out _ ?_)
            exact (HB3.out.setCell (by simp) _).setCell (by simp) _
        · obtain ⟨ox, oy⟩ := out
          have HC : Hid (wAdd l = (⟨ox, oy⟩, 0)) := Lib.hid (by
            have := hgo.out
            rw [List.drop_of_length_le (by rw [hP.length]; omega)] at this
            rw [wadd_yes HALL.out, ← this]; rfl)
          have a0 := hok.out.c 0 _ rfl
          have a1 := hok.out.c 1 _ rfl
          have d0 := hsk.out.c 0 _ rfl
          have d1 := hsk.out.c 1 _ rfl
          have f0 := hsk.out.f 0
          have f1 := hsk.out.f 1
          have S2 := Lib.hid (hsk.out.set2 (.int .i64 ox) (.int .i64 oy))
          simp only at a0 a1
          go_wp2_with fail
          obtain ⟨b0, b1⟩ := (⟨S2.out.c 0 _ rfl, S2.out.c 1 _ rfl⟩ : _ ∧ _)
          refine bodyPost_ret (v := .tuple #[.agg #[.int .i64 ox, .int .i64 oy], .int .i64 0]) (by simp [results, Tryd.results22, go_sem, b0, b1]) rfl (FIN.out _ HC.out _ ?_)
          exact (hbs.setCell (by simp) _).setCell (by simp) _
end Go.Proofs.YtcllghcplphijaaDoor
