/-
  THE WALK OF limewashref28.Spread.
-/
import Derived.Test.YtmkmmkpigpbkiaaDilRefC
import Derived.Test.YtmkmmkpigpbkiaaDilPlain
set_option linter.unusedVariables false
set_option linter.unusedSimpArgs false
namespace Go.Proofs.Ytmkmmkpigpbkiaa
open Go.RowKit

theorem rspread_no (A : Option Addr) (n c : Nat) (v : List Int) (ww pad : Int) (w : World) (hI : Ints w w.heap.size A n v) (hn : n ≤ 1000) (bw : i64b ww) (ho : openOk ww pad v = false) :
    Calls Try.prog 12 #[.int .i64 ww, .int .i64 pad, .slice A n c] w (SpreadRes ww pad v w) := by
  have HV := Lib.hid (values_any w.heap.size A n c v ww w hI hn bw)
  have HNO := Lib.hid (spreadF_no ho)
  have HO := Lib.hid ho; clear ho
  cases h1 : levelOk ww v with
  | false =>
    rw [h1] at HV
    clear h1
    go_enter Try.func12, Try.ntmps12
    go_wp2_with fail
    refine HV.out.mono ?_
    rintro e w1 ⟨rfl, rfl⟩
    go_wp2_with fail
    go_ret2
    unfold SpreadRes
    rw [HNO.out]
    exact ListRes.none_ rfl (Below.refl _ _)
  | true =>
    rw [h1] at HV
    have hp : padOk pad = false := by have := HO.out; unfold openOk at this; rw [h1] at this; simpa using this
    clear h1
    by_cases h2 : pad < 0
    · have d2 : decide (pad < 0) = true := decide_eq_true h2
      go_enter Try.func12, Try.ntmps12
      go_wp2_with fail
      refine HV.out.mono ?_
      rintro e w1 ⟨rfl, rfl⟩
      go_wp2_with fail
      go_ret2
      unfold SpreadRes
      rw [HNO.out]
      exact ListRes.none_ rfl (Below.refl _ _)
    · have d2 : decide (pad < 0) = false := decide_eq_false h2
      have d3 : decide (8 < pad) = true := decide_eq_true (by
        rcases Int.lt_or_le 8 pad with h3 | h3
        · exact h3
        · rw [padOk_iff.2 ⟨by omega, h3⟩] at hp; cases hp)
      clear hp
      go_enter Try.func12, Try.ntmps12
      go_wp2_with fail
      refine HV.out.mono ?_
      rintro e w1 ⟨rfl, rfl⟩
      go_wp2_with fail
      go_ret2
      unfold SpreadRes
      rw [HNO.out]
      exact ListRes.none_ rfl (Below.refl _ _)

theorem spreadAt_ref {q : Nat} {v : List Int} {h pad : Int} (p : Pict q v h) (hp : 0 ≤ pad) (hp8 : pad ≤ 8) {k : Nat} (hk : k < v.length) {t : Pt} {b : Bool} (ht : (t, b) = nearS q v ((k : Int) % q) ((k : Int) / q) pad) :
    spreadAt q v pad k = if v.getD k (-1) < 0 ∧ b = true then v.getD (t.y * q + t.x).toNat (-1) else v.getD k (-1) := by
  by_cases h0 : 0 ≤ v.getD k (-1)
  · rw [if_neg (fun hh => by omega)]
    exact spread_keeps p hp hp8 hk h0
  · unfold spreadAt
    simp only [Int.natCast_emod, Int.natCast_ediv]
    rw [← ht]
    cases b with
    | true => simp only [if_true, and_true]; rw [if_pos (by omega)]
    | false => simp

set_option maxHeartbeats 3200000 in
theorem rspread_yes (A : Option Addr) (n c : Nat) (v : List Int) (q : Nat) (pad : Int) (w : World) (hI : Ints w w.heap.size A n v) (hn : n ≤ 1000) (ho : openOk q pad v = true) :
    Calls Try.prog 12 #[.int .i64 q, .int .i64 pad, .slice A n c] w (SpreadRes q pad v w) := by
  obtain ⟨i0', hi0, hz0, hz1, hz2⟩ := info_parts size_int'
  have hok := ho
  unfold openOk at hok
  simp only [Bool.and_eq_true] at hok
  obtain ⟨hlo, hpo⟩ := hok
  have q1 := (levelOk_iff.1 hlo).1
  have q2 := (levelOk_iff.1 hlo).2.1
  have HV := Lib.hid (values_any w.heap.size A n c v q w hI hn ⟨by omega, by omega⟩)
  rw [hlo] at HV
  have HYES := Lib.hid (spreadF_yes ho)
  have PI := pict_of hlo
  have hl := Lib.hid hI.length
  rw [hl.out] at PI
  obtain ⟨hp0, hp1⟩ := padOk_iff.1 hpo
  have hh2 := PI.h2
  have HLO := Lib.hid hlo
  have HPO := Lib.hid hpo
  clear hlo hpo ho
  have d2 : decide (pad < 0) = false := decide_eq_false (by omega)
  have d3 : decide (8 < pad) = false := decide_eq_false (by omega)
  go_enter Try.func12, Try.ntmps12
  go_wp2_with fail
  refine HV.out.mono ?_
  rintro e w1 ⟨rfl, rfl⟩
  clear HV
  go_wp2_with fail
  go_loopw [8, 9] (fun u i wr => ∃ k : Nat, k ≤ n ∧ i = .int .i64 k ∧ wr.ownsRow w1.heap.size 3 1 u k (cellsI ((spreadS q v pad).take k)) ∧ Below w1.heap.size w1 wr) (fun _ i _ => n - (intOf i).toNat)
  case atStart => exact ⟨0, by omega, rfl, World.ownsRow_nil _ _ _ _, Below.refl _ _⟩
  case round =>
    obtain ⟨k, hk, rfl, hown, hbk⟩ := hrel
    by_cases hlt : k < n
    · have t0 : decide ((k : Int) < (n : Int)) = true := decide_eq_true (by omega)
      have k0 : (0 : Int) ≤ (k : Int) := by omega
      have k1 : (k : Int) < (n : Int) := by omega
      have hkl : k < v.length := by rw [hl.out]; exact hlt
      obtain ⟨r1, r2, r3, r4⟩ := PI.tx_range hkl
      unfold tx at r1 r2 r3 r4
      simp only [Int.natCast_emod, Int.natCast_ediv] at r1 r2 r3 r4
      obtain ⟨⟨⟨tx', ty'⟩, tb⟩, ht⟩ : ∃ s, s = nearS q v ((k : Int) % q) ((k : Int) / q) pad := ⟨_, rfl⟩
      have HN : Hid (∀ W', Below w1.heap.size w1 W' → Calls Try.prog 10 #[.int .i64 q, .int .i64 pad, .slice A n c, .int .i64 ((k : Int) % q), .int .i64 ((k : Int) / q)] W' fun e w' => e = .returned (.tuple #[.agg #[.int .i64 tx', .int .i64 ty'], .bool tb]) ∧ Below W'.heap.size W' w') := Lib.hid fun W' hW' => by
        have h9 := rnear_any A n c v q pad ((k : Int) % q) ((k : Int) / q) W' ((hI.below hW' (Nat.le_refl _)).more hW'.size) hn ⟨by omega, by omega⟩
        unfold NearFRes at h9
        rw [nearF_yes (by unfold nearOk; rw [HLO.out, HPO.out, hl.out, decide_eq_true r1, decide_eq_true r2, decide_eq_true r3, decide_eq_true r4]; rfl), Int.toNat_natCast] at h9
        rwa [← ht] at h9
      have HSP := Lib.hid (spreadAt_ref PI hp0 hp1 hkl ht)
      have HSG : Hid ((spreadS q v pad)[k]? = some (spreadAt q v pad k)) := Lib.hid (spreadS_get hkl)
      have HT := Lib.hid ht; clear ht
      have kd1 : (k : Int) / q ≤ 256 := by omega
      have kd2 : (k : Int) % q ≤ 256 := by omega
      have hq0 : ¬ (q : Int) = 0 := by omega
      have hq0n : ¬ q = 0 := by omega
      have hq0b : ((q : Int) == 0) = false := by simpa using hq0n
      have td : (k : Int).tdiv q = (k : Int) / q := Int.tdiv_eq_ediv_of_nonneg k0
      have tm : (k : Int).tmod q = (k : Int) % q := Int.tmod_eq_emod_of_nonneg k0
      have wd : IntKind.i64.wrap ((k : Int) / q) = (k : Int) / q := IntWalk.i64_in _ (by omega)
      have wm : IntKind.i64.wrap ((k : Int) % q) = (k : Int) % q := IntWalk.i64_in _ (by omega)
      have SX : Hid (SlotN (wr.alloc (.cells #[.int .i64 0, .int .i64 0] 24)).drew wr.heap.size [.int .i64 0, .int .i64 0]) := Lib.hid (by have h := SlotN.new wr [.int .i64 0, .int .i64 0] #[.int .i64 0, .int .i64 0] 24 rfl; exact ⟨h.c, h.f⟩)
      have hzk : w1.heap.size ≤ wr.heap.size := hbk.size
      go_wp2_with fail
      go_region_held3 (fun w' => True) (trivial)
        (first
          | (go_at_call 10; refine (HN.out _ (by first | exact hbk.drew | exact hbk.drew.alloc (by simp; omega) _)).mono ?_; clear HN; rintro e wx ⟨rfl, hbx⟩; (have hby : Below wr.heap.size wr wx := by first | exact (Below.refl _ wr).drew.trans (hbx.mono (by simp)) | exact (((Below.refl _ wr).drew.alloc (by simp) _).trans (hbx.mono (by simp)))); (first | (have hsx := SX.out.below hbx (by simp); have x0 := hsx.c 0 _ rfl; have x1 := hsx.c 1 _ rfl; have x2 := hsx.f 0; have x3 := hsx.f 1; have hzx : wr.heap.size < wx.heap.size := by have := hbx.size; simp at this; omega) | skip)))
      clear SX td tm wd wm hq0 hq0n hq0b
      all_goals
        have hzxx : wr.heap.size ≤ wx.heap.size := hby.size
        first
          | (obtain ⟨W, hW⟩ : ∃ W, W = wx.alloc (.cells #[.int .i64 tx', .int .i64 ty'] 24) := ⟨_, rfl⟩
             have hB : Below wr.heap.size wr W := by rw [hW]; exact hby.alloc hzxx _
             have hS : SlotN W wx.heap.size [.int .i64 tx', .int .i64 ty'] := by rw [hW]; exact SlotN.new wx _ _ _ rfl
             rw [← hW])
          | (obtain ⟨W, hW⟩ : ∃ W, W = (wx.setCell ⟨wr.heap.size, 0, none⟩ (.int .i64 tx')).setCell ⟨wr.heap.size, 1, none⟩ (.int .i64 ty') := ⟨_, rfl⟩
             have hB : Below wr.heap.size wr W := by rw [hW]; exact (hby.setCell (p := ⟨wr.heap.size, 0, none⟩) (Nat.le_refl _) _).setCell (p := ⟨wr.heap.size, 1, none⟩) (Nat.le_refl _) _
             have hS : SlotN W wr.heap.size [.int .i64 tx', .int .i64 ty'] := by rw [hW]; exact (hsx.set2 _ _)
             rw [← hW])
        clear hW
        have s0 := hS.c 0 _ rfl
        have s1 := hS.c 1 _ rfl
        have hownW := own_below hown hB (Nat.le_refl _)
        have hbkW : Below w1.heap.size w1 W := hbk.trans (hB.mono hbk.size)
        have hzW := hbkW.size
        obtain ⟨ad, z, rfl, hbz, hz, hmz, hcz, hloz, hhiz⟩ := (hI.below hbkW (Nat.le_refl _)).get hlt
        have hzv : v.getD k (-1) = z := by rw [List.getD_eq_getElem?_getD, hz]; rfl
        have HSPz := Lib.hid (HSP.out); rw [hzv] at HSPz
        have hbk4 : ∀ j, u8.ownBlock = some j → w1.heap.size ≤ j := fun j hj => (hown.lt j hj).1
        clear hS hB hown hbk hz hmz hzv
      all_goals
        by_cases g1 : z < 0
        case neg =>
          have e1 : decide (z < 0) = false := decide_eq_false g1
          have HTK : Hid ((spreadS q v pad).take (k + 1) = (spreadS q v pad).take k ++ [z]) := Lib.hid (by
            have e := HSG.out; rw [HSPz.out, if_neg (fun hh => g1 hh.1)] at e; exact take_snoc' _ _ _ e)
          go_wp2_with (at_builtin; refine wpList_append_lies _ rfl (.tmp 64) (.tmp 69) _ rfl w1.heap.size 3 i0' _ 1 8 Try.underlying22 hi0 hz0 hz1 hz2 rfl (by decide) _ k (cellsI ((spreadS q v pad).take k)) rfl (hownW.alloc _) ⟨W.heap.size, 0, none⟩ 1 1 [.int .i64 _] rfl rfl (World.news_of_block (heap_alloc_new _ _)) (by simp [Value.oneCell']) (by decide) (by unfold maxLen; omega) (by omega) (by simp; omega) _ rfl ?_; intro g4 cap4 w4 hown4 hgr4 hat4 hlt4)
          go_roundw
          case rel => exact ⟨k + 1, by omega, by go_num, by rw [HTK.out]; simpa [cellsI] using hown4, (hbkW.alloc hzW _).grown hgr4 (by simp; omega) (fun j hj => hbk4 j hj)⟩
          case measure => simp only [intOf]; omega
        have e1 : decide (z < 0) = true := decide_eq_true g1
        cases tb with
        | false =>
          have HTK : Hid ((spreadS q v pad).take (k + 1) = (spreadS q v pad).take k ++ [z]) := Lib.hid (by
            have e := HSG.out; rw [HSPz.out, if_neg (fun hh => by cases hh.2)] at e; exact take_snoc' _ _ _ e)
          go_wp2_with (at_builtin; refine wpList_append_lies _ rfl (.tmp 64) (.tmp 69) _ rfl w1.heap.size 3 i0' _ 1 8 Try.underlying22 hi0 hz0 hz1 hz2 rfl (by decide) _ k (cellsI ((spreadS q v pad).take k)) rfl (hownW.alloc _) ⟨W.heap.size, 0, none⟩ 1 1 [.int .i64 _] rfl rfl (World.news_of_block (heap_alloc_new _ _)) (by simp [Value.oneCell']) (by decide) (by unfold maxLen; omega) (by omega) (by simp; omega) _ rfl ?_; intro g4 cap4 w4 hown4 hgr4 hat4 hlt4)
          go_roundw
          case rel => exact ⟨k + 1, by omega, by go_num, by rw [HTK.out]; simpa [cellsI] using hown4, (hbkW.alloc hzW _).grown hgr4 (by simp; omega) (fun j hj => hbk4 j hj)⟩
          case measure => simp only [intOf]; omega
        | true =>
          obtain ⟨j, hj, htj⟩ := near_true hp1 HT.out.symm
          obtain ⟨z1, z2, z3, z4⟩ := PI.tx_range hj
          have z5 := PI.key_tx j
          rw [← htj] at z1 z2 z3 z4 z5
          unfold keyS at z5
          simp only at z1 z2 z3 z4 z5
          rw [hl.out] at hj
          have hw0 : 0 ≤ ty' * q := Int.mul_nonneg z3 (by omega)
          have hw1 : ty' * q ≤ 65536 := by
            have a1 : ty' * q ≤ 256 * q := Int.mul_le_mul_of_nonneg_right (by omega) (by omega)
            omega
          have i0 : 0 ≤ ty' * q + tx' := by omega
          have i1 : ty' * q + tx' < n := by omega
          obtain ⟨ad2, x', had2, hbk', hx', hm', hc', hlo, hhi⟩ := (hI.below hbkW (Nat.le_refl _)).get hj
          obtain rfl : ad = ad2 := by simpa using had2
          rw [← z5] at hc' hx'
          have HTK : Hid ((spreadS q v pad).take (k + 1) = (spreadS q v pad).take k ++ [x']) := Lib.hid (by
            have e := HSG.out
            rw [HSPz.out, if_pos ⟨g1, rfl⟩] at e
            have e2 : v.getD (ty' * q + tx').toNat (-1) = x' := by rw [List.getD_eq_getElem?_getD, hx']; rfl
            rw [e2] at e
            exact take_snoc' _ _ _ e)
          have HZ5 := Lib.hid z5
          have HTJ := Lib.hid htj
          clear z5 htj hx' hm' had2
          go_wp2_with (at_builtin; refine wpList_append_lies _ rfl (.tmp 51) (.tmp 62) _ rfl w1.heap.size 3 i0' _ 1 8 Try.underlying22 hi0 hz0 hz1 hz2 rfl (by decide) _ k (cellsI ((spreadS q v pad).take k)) rfl (hownW.alloc _) ⟨W.heap.size, 0, none⟩ 1 1 [.int .i64 _] rfl rfl (World.news_of_block (heap_alloc_new _ _)) (by simp [Value.oneCell']) (by decide) (by unfold maxLen; omega) (by omega) (by simp; omega) _ rfl ?_; intro g4 cap4 w4 hown4 hgr4 hat4 hlt4)
          go_roundw
          case rel => exact ⟨k + 1, by omega, by go_num, by rw [HTK.out]; simpa [cellsI] using hown4, (hbkW.alloc hzW _).grown hgr4 (by simp; omega) (fun j hj => hbk4 j hj)⟩
          case measure => simp only [intOf]; omega
    · have t0 : decide ((k : Int) < (n : Int)) = false := decide_eq_false (by omega)
      obtain rfl : k = n := by omega
      obtain ⟨A', c', rfl⟩ := own_shape hown
      go_wp2_with fail
      go_ret2
      unfold SpreadRes
      rw [HYES.out]
      have hlen : (spreadS q v pad).length = k := by simp [spreadS, hl.out]
      rw [List.take_of_length_le (by rw [hlen]; exact Nat.le_refl _)] at hown
      refine ⟨A', c', ?_, ?_, hbk⟩
      · simp only [hlen]; rfl
      · simp only [hlen]; exact hown

theorem rspread_any (A : Option Addr) (n c : Nat) (v : List Int) (ww pad : Int) (w : World) (hI : Ints w w.heap.size A n v) (hn : n ≤ 1000) (bw : i64b ww) :
    Calls Try.prog 12 #[.int .i64 ww, .int .i64 pad, .slice A n c] w (SpreadRes ww pad v w) := by
  cases h : openOk ww pad v with
  | false => exact rspread_no A n c v ww pad w hI hn bw h
  | true =>
    have h1 := h
    unfold openOk at h1
    simp only [Bool.and_eq_true] at h1
    obtain ⟨q, rfl⟩ : ∃ q : Nat, ww = q := ⟨ww.toNat, by have := (levelOk_iff.1 h1.1).1; omega⟩
    exact rspread_yes A n c v q pad w hI hn h
end Go.Proofs.Ytmkmmkpigpbkiaa
