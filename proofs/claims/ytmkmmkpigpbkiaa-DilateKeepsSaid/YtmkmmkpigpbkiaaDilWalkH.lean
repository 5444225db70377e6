/-
  THE WALK OF dilate.Spread.
-/
import Derived.Test.YtmkmmkpigpbkiaaDilWalkG
set_option linter.unusedVariables false
set_option linter.unusedSimpArgs false
namespace Go.Proofs.Ytmkmmkpigpbkiaa
open Go.RowKit

def SpreadRes (ww pad : Int) (v : List Int) (w : World) (e : Ending) (w' : World) : Prop := ListRes w 3 1 (spreadF ww pad v).1.length (cellsI (spreadF ww pad v).1) (spreadF ww pad v).2 e w'
theorem spreadF_no {ww pad : Int} {v : List Int} (h : openOk ww pad v = false) : spreadF ww pad v = ([], 1) := by
  unfold openOk at h
  unfold spreadF; rw [h]; rfl
theorem spreadF_yes {q : Nat} {pad : Int} {v : List Int} (h : openOk q pad v = true) : spreadF q pad v = (spreadS q v pad, 0) := by
  unfold openOk at h
  unfold spreadF; rw [h, Int.toNat_natCast]; rfl

theorem spread_no (A : Option Addr) (n c : Nat) (v : List Int) (ww pad : Int) (w : World) (hI : Ints w w.heap.size A n v) (hn : n ≤ 1000) (bw : i64b ww) (ho : openOk ww pad v = false) :
    Calls Try.prog 11 #[.int .i64 ww, .int .i64 pad, .slice A n c] w (SpreadRes ww pad v w) := by
  have HO := Lib.hid (open_any A n c v ww pad w hI hn bw)
  unfold OpenRes at HO
  rw [ho] at HO
  have HNO := Lib.hid (spreadF_no ho)
  clear ho
  go_enter Try.func11, Try.ntmps11
  go_wp2_with fail
  refine HO.out.mono ?_
  rintro e w1 ⟨rfl, hb1⟩
  simp only [if_false, Bool.false_eq_true]
  go_wp2_with fail
  go_ret2
  unfold SpreadRes
  rw [HNO.out]
  exact ListRes.none_ rfl (hb1.alloc hb1.size _)

set_option maxHeartbeats 3200000 in
theorem spread_yes (A : Option Addr) (n c : Nat) (v : List Int) (q : Nat) (pad : Int) (w : World) (hI : Ints w w.heap.size A n v) (hn : n ≤ 1000) (ho : openOk q pad v = true) :
    Calls Try.prog 11 #[.int .i64 q, .int .i64 pad, .slice A n c] w (SpreadRes q pad v w) := by
  have hok := ho
  unfold openOk at hok
  simp only [Bool.and_eq_true] at hok
  obtain ⟨hlo, hpo⟩ := hok
  have q1 := (levelOk_iff.1 hlo).1
  have q2 := (levelOk_iff.1 hlo).2.1
  have HO := Lib.hid (open_any A n c v q pad w hI hn ⟨by omega, by omega⟩)
  unfold OpenRes at HO
  rw [ho] at HO
  simp only [if_true, picV] at HO
  have HYES := Lib.hid (spreadF_yes ho)
  have PI := pict_of hlo
  have hl := Lib.hid hI.length
  rw [hl.out] at PI
  obtain ⟨hp0, hp1⟩ := padOk_iff.1 hpo
  obtain ⟨hh, hhe⟩ : ∃ hh, hh = (n : Int) / (q : Int) := ⟨_, rfl⟩
  rw [← hhe] at PI HO
  have HHE := Lib.hid hhe; clear hhe
  have hh2 := PI.h2
  clear hlo hpo ho
  go_enter Try.func11, Try.ntmps11
  go_wp2_with fail
  refine HO.out.mono ?_
  clear HO
  rintro e w1 ⟨rfl, hb1⟩
  have hs1 := SlotN.new w1 [.int .i64 q, .int .i64 hh, .slice A n c] #[.int .i64 q, .int .i64 hh, .slice A n c] 41 rfl
  have hbA : Below w.heap.size w (w1.alloc (.cells #[.int .i64 q, .int .i64 hh, .slice A n c] 41)) := hb1.alloc hb1.size _
  have HCL := Lib.hid (clone_any A n c v _ ((hI.below hbA (Nat.le_refl _)).more (by have := hb1.size; simp; omega)) hn)
  go_wp2_with fail
  refine HCL.out.mono ?_
  clear HCL
  intro e w2 h2
  obtain ⟨A3, c3, rfl, hown, hb2⟩ := h2
  have HS2 := Lib.hid (hs1.below hb2 (by simp))
  have hbw2 : Below w.heap.size w w2 := hbA.trans (hb2.mono (by have := hb1.size; simp; omega))
  have hz2 : w1.heap.size + 1 ≤ w2.heap.size := by have := hb2.size; simpa using this
  have hz1 : w.heap.size ≤ w1.heap.size := hb1.size
  simp only [World.size_alloc] at hown
  clear hs1 hbA hb2 hb1
  go_wp2_with fail
  go_loopw [27] (fun i wr => ∃ k : Nat, k ≤ n ∧ i = .int .i64 k ∧ Hid (wr.ownsRow (w1.heap.size + 1) 3 1 (.slice A3 n c3) n (cellsI (mixI (spreadAt q v pad) v k))) ∧ Hid (SlotN wr w1.heap.size [.int .i64 q, .int .i64 hh, .slice A n c]) ∧ Below w.heap.size w wr ∧ w1.heap.size + 1 ≤ wr.heap.size) (fun i _ => n - (intOf i).toNat)
  case atStart => exact ⟨0, by omega, rfl, Lib.hid (by rw [mixI_zero]; exact hown), HS2, hbw2, hz2⟩
  case round =>
    clear hown HS2 hbw2 hz2
    obtain ⟨k, hk, rfl, hrow, hsl, hbk, hzk⟩ := hrel
    by_cases hlt : k < n
    · have t0 : decide ((k : Int) < (n : Int)) = true := decide_eq_true (by omega)
      have k0 : (0 : Int) ≤ (k : Int) := by omega
      have k1 : (k : Int) < (n : Int) := by omega
      obtain ⟨r1, r2, r3, r4⟩ := PI.tx_range (show k < v.length by rw [hl.out]; exact hlt)
      unfold tx at r1 r2 r3 r4
      simp only [Int.natCast_emod, Int.natCast_ediv] at r1 r2 r3 r4
      obtain ⟨⟨⟨tx', ty'⟩, tb⟩, ht⟩ : ∃ s, s = nearS q v ((k : Int) % q) ((k : Int) / q) pad := ⟨_, rfl⟩
      have HN : Hid (∀ W', Below w.heap.size w W' → Calls Try.prog 20 #[.agg #[.int .i64 q, .int .i64 hh, .slice A n c], .int .i64 ((k : Int) % q), .int .i64 ((k : Int) / q), .int .i64 pad] W' fun e w' => e = .returned (.tuple #[.agg #[.int .i64 tx', .int .i64 ty'], .bool tb]) ∧ Below W'.heap.size W' w') := Lib.hid fun W' hW' => by
        have := near_walk q n c hh ((k : Int) % q) ((k : Int) / q) pad A v W' ((hI.below hW' (Nat.le_refl _)).more hW'.size) PI r1 r2 r3 r4 hp0 hp1
        unfold NearRes at this
        rwa [← ht] at this
      have HT := Lib.hid ht; clear ht
      have p0 := hsl.out.c 0 _ rfl
      have p1 := hsl.out.c 1 _ rfl
      have p2 := hsl.out.c 2 _ rfl
      have kd1 : (k : Int) / q ≤ 256 := by omega
      have kd2 : (k : Int) % q ≤ 256 := by omega
      have hq0 : ¬ (q : Int) = 0 := by omega
      have hq0n : ¬ q = 0 := by omega
      have hq0b : ((q : Int) == 0) = false := by simpa using hq0n
      have td : (k : Int).tdiv q = (k : Int) / q := Int.tdiv_eq_ediv_of_nonneg k0
      have tm : (k : Int).tmod q = (k : Int) % q := Int.tmod_eq_emod_of_nonneg k0
      have wd : IntKind.i64.wrap ((k : Int) / q) = (k : Int) / q := IntWalk.i64_in _ (by omega)
      have wm : IntKind.i64.wrap ((k : Int) % q) = (k : Int) % q := IntWalk.i64_in _ (by omega)
      have SX : Hid (SlotN (wr.alloc (.cells #[.int .i64 0, .int .i64 0] 24)).drew wr.heap.size [.int .i64 0, .int .i64 0]) := Lib.hid (by have h := SlotN.new wr [.int .i64 0, .int .i64 0] #[.int .i64 0, .int .i64 0] 24 rfl; exact ⟨h.c, h.f⟩)
      go_wp2_with fail
      go_region_held3 (fun w' => w'.cell? ⟨w1.heap.size, 0, none⟩ = some (.int .i64 q) ∧ w'.cell? ⟨w1.heap.size, 1, none⟩ = some (.int .i64 hh) ∧ w'.cell? ⟨w1.heap.size, 2, none⟩ = some (.slice A n c))
        (refine ⟨?_, ?_, ?_⟩ <;> (first | with_reducible assumption | (rw [hby.cell (by (try dsimp only); omega)]; with_reducible assumption) | (rw [World.cell?_alloc_lt _ _ _ (by have := hby.size; (try dsimp only); omega), hby.cell (by (try dsimp only); omega)]; with_reducible assumption) | (rw [World.cell?_alloc_lt _ _ _ (by (try dsimp only); simp; omega)]; with_reducible assumption) | (rw [World.cell?_setCell_far _ _ _ _ (by (try dsimp only); omega), World.cell?_setCell_far _ _ _ _ (by (try dsimp only); omega), hby.cell (by (try dsimp only); omega)]; with_reducible assumption) | (go_keep; done)))
        (first
          | (go_at_call 20; refine (HN.out _ (by first | exact hbk.drew | exact hbk.drew.alloc (by simp; omega) _)).mono ?_; clear HN; rintro e wx ⟨rfl, hbx⟩; (have hby : Below wr.heap.size wr wx := by first | exact (Below.refl _ wr).drew.trans (hbx.mono (by simp)) | exact (((Below.refl _ wr).drew.alloc (by simp) _).trans (hbx.mono (by simp)))); (first | (have hsx := SX.out.below hbx (by simp); have x0 := hsx.c 0 _ rfl; have x1 := hsx.c 1 _ rfl; have x2 := hsx.f 0; have x3 := hsx.f 1; have hzx : wr.heap.size < wx.heap.size := by have := hbx.size; simp at this; omega) | skip)))
      clear p0 p1 p2 SX td tm wd wm hq0 hq0n hq0b
      all_goals
        have hzxx : wr.heap.size ≤ wx.heap.size := hby.size
        first
          | (obtain ⟨W, hW⟩ : ∃ W, W = wx.alloc (.cells #[.int .i64 tx', .int .i64 ty'] 24) := ⟨_, rfl⟩
             have hB : Below wr.heap.size wr W := by rw [hW]; exact hby.alloc hzxx _
             have hS : SlotN W wx.heap.size [.int .i64 tx', .int .i64 ty'] := by rw [hW]; exact SlotN.new wx _ _ _ rfl
             rw [← hW])
          | (obtain ⟨W, hW⟩ : ∃ W, W = (wx.setCell ⟨wr.heap.size, 0, none⟩ (.int .i64 tx')).setCell ⟨wr.heap.size, 1, none⟩ (.int .i64 ty') := ⟨_, rfl⟩
             have hB : Below wr.heap.size wr W := by rw [hW]; exact (hby.setCell (p := ⟨wr.heap.size, 0, none⟩) (Nat.le_refl _) _).setCell (p := ⟨wr.heap.size, 1, none⟩) (Nat.le_refl _) _
             have hS : SlotN W wr.heap.size [.int .i64 tx', .int .i64 ty'] := by rw [hW]; exact (hsx.set2 _ _)
             rw [← hW])
        clear hW
        have s0 := hS.c 0 _ rfl
        have s1 := hS.c 1 _ rfl
        have hrowW := Lib.hid (own_below hrow.out hB (Nat.le_refl _))
        have hslW := Lib.hid (hsl.out.below hB (by omega))
        have hbkW : Below w.heap.size w W := hbk.trans (hB.mono hbk.size)
        have hzW : w1.heap.size + 1 ≤ W.heap.size := Nat.le_trans hzk hB.size
        have hsp : spreadAt q v pad k = if tb then v.getD (ty' * q + tx').toNat (-1) else v.getD k (-1) := by
          unfold spreadAt
          simp only [Int.natCast_emod, Int.natCast_ediv]
          rw [← HT.out]
        have hkv : k < v.length := by rw [hl.out]; exact hlt
        have hvk : v[k]? = some (v.getD k (-1)) := by simp [List.getD_eq_getElem?_getD, List.getElem?_eq_getElem hkv]
        have HSP := Lib.hid hsp; clear hsp
        have HVK := Lib.hid hvk; clear hvk
        clear hS hB hrow hsl hbk
      all_goals
        cases tb with
        | false =>
          have HS : Hid (W.ownsRow (w1.heap.size + 1) 3 1 (.slice A3 n c3) n (cellsI (mixI (spreadAt q v pad) v (k + 1)))) := Lib.hid (by
            rw [← mixI_same _ _ _ (by rw [HSP.out]; exact HVK.out)]
            exact hrowW.out)
          go_wp2_with fail
          go_roundw
          case rel => exact ⟨k + 1, by omega, by go_num, Lib.hid (by exact HS.out), Lib.hid ⟨hslW.out.c, hslW.out.f⟩, ⟨hbkW.os, hbkW.tape, hbkW.output, hbkW.size, hbkW.block⟩, hzW⟩
          case measure => simp only [intOf]; omega
        | true =>
          obtain ⟨j, hj, htj⟩ := near_true hp1 HT.out.symm
          obtain ⟨z1, z2, z3, z4⟩ := PI.tx_range hj
          have z5 := PI.key_tx j
          rw [← htj] at z1 z2 z3 z4 z5
          unfold keyS at z5
          simp only at z1 z2 z3 z4 z5
          rw [hl.out] at hj
          have hw0 : 0 ≤ ty' * q := Int.mul_nonneg z3 (by omega)
          have hw1 : ty' * q ≤ 65536 := by
            have a1 : ty' * q ≤ 256 * q := Int.mul_le_mul_of_nonneg_right (by omega) (by omega)
            omega
          have i0 : 0 ≤ ty' * q + tx' := by omega
          have i1 : ty' * q + tx' < n := by omega
          obtain ⟨ad, x', rfl, hbk', hx', hm', hc', hlo, hhi⟩ := (hI.below hbkW (Nat.le_refl _)).get hj
          rw [← z5] at hc' hx'
          have HSPX : Hid (spreadAt q v pad k = x') := Lib.hid (by
            rw [HSP.out, if_pos rfl, List.getD_eq_getElem?_getD, hx']; rfl)
          obtain ⟨g, hA3, hg1, hg2, hg3, hgc⟩ := own_cells hrowW.out (by omega)
          subst hA3
          have hc : W.cell? ⟨g, k, none⟩ = some (.int .i64 (v.getD k (-1))) := hgc k _ (by rw [cellsI_get, mixI_get, HVK.out]; rfl)
          have hf : W.frozen? ⟨g, k, none⟩ = false := hrowW.out.frozenAt k
          have ha : (⟨g, 0, none⟩ : Addr).add k = ⟨g, k, none⟩ := addr_lit _ _
          obtain ⟨hs1, hs2⟩ := hrowW.out.stored k (.int .i64 x')
          have HS : Hid ((W.setCell ⟨g, k, none⟩ (.int .i64 x')).ownsRow (w1.heap.size + 1) 3 1 (.slice (some ⟨g, 0, none⟩) n c3) n (cellsI (mixI (spreadAt q v pad) v (k + 1)))) := Lib.hid (by
            rw [← mixI_set _ _ _ (by rw [hl.out]; exact hlt), HSPX.out]
            simpa [cellsI] using hs1)
          have hbs : Below (w1.heap.size + 1) W (W.setCell ⟨g, k, none⟩ (.int .i64 x')) := (Below.refl _ _).setCell (p := ⟨g, k, none⟩) hg1 _
          have HSL := Lib.hid (hslW.out.below hbs (by omega))
          have hbk2 := hbkW.trans (hbs.mono (by omega))
          have HZ5 := Lib.hid z5
          have HTJ := Lib.hid htj
          clear hs1 hs2 hbs hgc z5 htj hx' hm'
          go_wp2_with fail
          go_roundw
          case rel => exact ⟨k + 1, by omega, by go_num, Lib.hid (by exact HS.out), Lib.hid ⟨HSL.out.c, HSL.out.f⟩, ⟨hbk2.os, hbk2.tape, hbk2.output, hbk2.size, hbk2.block⟩, by simpa using hzW⟩
          case measure => simp only [intOf]; omega
    · have t0 : decide ((k : Int) < (n : Int)) = false := decide_eq_false (by omega)
      obtain rfl : k = n := by omega
      go_wp2_with fail
      go_ret2
      unfold SpreadRes
      rw [HYES.out]
      have e : mixI (spreadAt q v pad) v k = spreadS q v pad := by rw [← hl.out, mixI_done]; rfl
      have hrow' := hrow.out
      rw [e] at hrow'
      have hlen : (spreadS q v pad).length = k := by simp [spreadS, hl.out]
      refine ⟨A3, c3, ?_, ?_, hbk⟩
      · simp only [hlen]; rfl
      · simp only [hlen]; exact own_mono hrow' (by omega)

theorem spread_any (A : Option Addr) (n c : Nat) (v : List Int) (ww pad : Int) (w : World) (hI : Ints w w.heap.size A n v) (hn : n ≤ 1000) (bw : i64b ww) :
    Calls Try.prog 11 #[.int .i64 ww, .int .i64 pad, .slice A n c] w (SpreadRes ww pad v w) := by
  cases h : openOk ww pad v with
  | false => exact spread_no A n c v ww pad w hI hn bw h
  | true =>
    have h1 := h
    unfold openOk at h1
    simp only [Bool.and_eq_true] at h1
    obtain ⟨q, rfl⟩ : ∃ q : Nat, ww = q := ⟨ww.toNat, by have := (levelOk_iff.1 h1.1).1; omega⟩
    exact spread_yes A n c v q pad w hI hn h
end Go.Proofs.Ytmkmmkpigpbkiaa
