/-
  THE WALK OF limewashref05's parts.
-/
import Derived.Test.YtkdffcoofijhkaaDoorSl
import Derived.Test.YtkdffcoofijhkaaDoorScanDoB
import Derived.Test.YtkdffcoofijhkaaDoorScanRfQ
set_option linter.unusedVariables false
set_option linter.unusedSimpArgs false
set_option maxRecDepth 8000
namespace Go.Proofs.YtkdffcoofijhkaaDoor
open Go.RowKit

theorem results_tmp4 {fn : Func} {t u v x : Tmp} (h : fn.results = #[.tmp t, .tmp u, .tmp v, .tmp x]) (tmps : Array Value) (P : Program) (w : World) :
    (results fn tmps).run P w = .ok (.tuple #[tmps.getD t undef, tmps.getD u undef, tmps.getD v undef, tmps.getD x undef]) w := by
  simp [results, h]

/-- what parts hands back -/
def PartsR (w : World) (l : List UInt8) (e : Ending) (w' : World) : Prop := Below w.heap.size w w' ∧
  ((decOk l = false ∧ ∃ bb A n c v, e = .returned (.tuple #[.bool bb, .slice A n c, .int .i64 v, .bool false])) ∨
   (decOk l = true ∧ ∃ A c, e = .returned (.tuple #[.bool (signedS l).2, .slice A (pds (signedS l).1).length c, .int .i64 ((cut1 46 (signedS l).1).2.1.length : Int), .bool true]) ∧
     w'.ownsRow w.heap.size 3 1 (.slice A (pds (signedS l).1).length c) (pds (signedS l).1).length (cellsI (dis (pds (signedS l).1)))))
theorem parts_bad_len (l : List UInt8) (w : World) (h : 20 < l.length) (hl : l.length ≤ 100000) : Calls Tryd.prog 46 #[.string ⟨l.toArray⟩] w (PartsR w l) := by
  have F : PartsR w l (.returned (.tuple #[.bool false, .slice none 0 0, .int .i64 0, .bool false])) w := ⟨Below.refl _ _, .inl ⟨dec_bad_len l h, _, _, _, _, _, rfl⟩⟩
  generalize PartsR w l = Qp at F ⊢
  have t0 : decide ((20 : Int) < (l.length : Int)) = true := decide_eq_true (by omega)
  go_enter Tryd.func46, Tryd.ntmps46
  go_wp2_with fail
  first | exact F | ((try simp only [Exit.inBlock, Exit.then]); refine bodyPost_ret (results_tmp4 rfl _ _ _) rfl ?_; exact F)

set_option maxHeartbeats 3200000 in
theorem parts_minus (l t : List UInt8) (w : World) (hl : l.length ≤ 20) (hll0 : l = 45 :: t) : Calls Tryd.prog 46 #[.string ⟨l.toArray⟩] w (PartsR w l) := by
  obtain ⟨i0, hi0, hz0, hz1, hz2⟩ := info_parts size_int'
  have hS : signedS l = (t, true) := by rw [hll0]; exact signed_minus t
  have hlen : l.length = t.length + 1 := by rw [hll0]; simp
  have hget : ∀ (k : Nat) (c : UInt8), t[k]? = some c → l[k + 1]? = some c := fun k c h => by rw [hll0]; simpa using h
  have a0 : decide ((0 : Int) < (l.length : Int)) = true := decide_eq_true (by omega)
  have a0n : decide (0 < l.length) = true := decide_eq_true (by omega)
  have hi : ∀ W, Sem.run Tryd.prog (Instr.index 9 (.string ⟨l.toArray⟩) (.int .i64 0)) W = .ok (.int .u8 45) W := idx_str l 0 0 45 (by rw [hll0]; rfl) rfl
  clear hll0
  have hS1 : (signedS l).1 = t := by rw [hS]
  have hS2 : (signedS l).2 = true := by rw [hS]
  have FNO : Hid (∀ bb A n c v w', decOk l = false → Below w.heap.size w w' → PartsR w l (.returned (.tuple #[.bool bb, .slice A n c, .int .i64 v, .bool false])) w') := Lib.hid fun bb A n c v w' h hb => ⟨hb, .inl ⟨h, bb, A, n, c, v, rfl⟩⟩
  have FYES : Hid (∀ A q c v w', decOk l = true → q = (pds t).length → v = ((cut1 46 t).2.1.length : Int) → w'.ownsRow w.heap.size 3 1 (.slice A q c) q (cellsI (dis (pds t))) → Below w.heap.size w w' → PartsR w l (.returned (.tuple #[.bool true, .slice A q c, .int .i64 v, .bool true])) w') := Lib.hid (by
    rintro A q c v w' h rfl rfl ho hb
    refine ⟨hb, .inr ⟨h, A, c, ?_, ?_⟩⟩
    · rw [hS1, hS2]
    · rw [hS1]; exact ho)
  generalize hQ : PartsR w l = Qp at FNO FYES ⊢
  clear hQ
  have HOK : Hid (pok t = true → decOk l = decide (0 < (pds t).length)) := Lib.hid fun h => by rw [dec_ok l hl (by rw [hS1]; exact h), hS1]
  have HBAD : Hid (∀ k, pok (t.take k) = false → decOk l = false) := Lib.hid fun k h => dec_bad_pre l (t.take k) (t.drop k) (by rw [hS1, List.take_append_drop]) h
  have HPB := Lib.hid (pt_behind t)
  have hll := Lib.hid hlen
  have HGET := Lib.hid hget
  clear hS hS1 hS2 hlen hget
  have tl : decide ((20 : Int) < (l.length : Int)) = false := decide_eq_false (by omega)
  have htl : t.length ≤ 20 := by have := hll.out; omega
  go_enter Tryd.func46, Tryd.ntmps46
  go_wp2_with fail
  go_loopw [8, 9, 10] (fun u p i wr => ∃ (k q : Nat) (P : Int) (ds : List Int), k ≤ t.length ∧ i = .int .i64 ((k : Int) + 1) ∧ p = .int .i64 P ∧ wr.ownsRow w.heap.size 3 1 u q (cellsI ds) ∧ q ≤ 20 ∧ -1 ≤ P ∧ P ≤ 20 ∧ Hid (ds = dis (pds (t.take k)) ∧ q = (pds (t.take k)).length ∧ P = ptI (t.take k) ∧ pok (t.take k) = true) ∧ Hid (Below w.heap.size w wr)) (fun _ _ i _ => 30 - (intOf i).toNat)
  case atStart => exact ⟨0, 0, -1, [], by omega, rfl, rfl, World.ownsRow_nil _ _ _ _, by omega, by omega, by omega, Lib.hid ⟨rfl, rfl, rfl, rfl⟩, Lib.hid (Below.refl _ _)⟩
  case round =>
    obtain ⟨k, q, P, ds, hk, rfl, rfl, hown, hq, hP1, hP2, HI, HB⟩ := hrel
    obtain ⟨A', c', rfl⟩ := own_shape hown
    have hbk4 : ∀ j, (Value.slice A' q c').ownBlock = some j → w.heap.size ≤ j := fun j hj => (hown.lt j hj).1
    have hzw : w.heap.size ≤ wr.heap.size := HB.out.size
    by_cases hlt : k < t.length
    · have s0 : decide ((k : Int) + 1 < (l.length : Int)) = true := decide_eq_true (by have := hll.out; omega)
      obtain ⟨c, hc⟩ : ∃ c, t[k]? = some c := ⟨_, List.getElem?_eq_getElem hlt⟩
      have hik := idx_str l (k + 1) ((k : Int) + 1) c (HGET.out k c hc) (by omega)
      have KD := Lib.hid (rdigit_any c wr)
      have HTS : Hid (t.take (k + 1) = t.take k ++ [c]) := Lib.hid (take_snoc' _ _ _ hc)
      have c8 := c.toNat_lt
      have w8 : IntKind.i64.wrap ((c.toNat : Nat) : Int) = (c.toNat : Int) := by rw [IntKind.wrap_i64]; omega
      have hu46 := u8_eq c 46 (by decide)
      rw [show ((46 : Nat) : Int) = (46 : Int) from rfl, show UInt8.ofNat 46 = (46 : UInt8) from rfl] at hu46
      by_cases h46 : c = 46
      · have s1 : (((c.toNat : Nat) : Int) == 46) = true := by rw [hu46, h46]; rfl
        have hd : isDig c = false := by rw [h46]; decide
        rw [hd] at KD
        by_cases hp : P < 0
        · have s2 : decide (P < 0) = true := decide_eq_true hp
          have hfl : (cut1 46 (t.take k)).2.2 = false := by
            cases e : (cut1 46 (t.take k)).2.2 with
            | false => rfl
            | true => have := (pt_some _ e).1; have := HI.out.2.2.1; omega
          have HI2 : Hid (ds = dis (pds (t.take (k + 1))) ∧ q = (pds (t.take (k + 1))).length ∧ (q : Int) = ptI (t.take (k + 1)) ∧ pok (t.take (k + 1)) = true) := Lib.hid (by
            obtain ⟨i1, i2, i3, i4⟩ := HI.out
            rw [HTS.out, h46]
            obtain ⟨p1, p2, _, _, _⟩ := pok_point (t.take k) hfl
            rw [p1, p2, pt_point _ hfl]
            exact ⟨i1, i2, by rw [i2], i4⟩)
          clear hu46 h46 hd hfl hc KD c8
          go_wp2_with fail
          go_roundw
          case rel => exact ⟨k + 1, q, (q : Int), ds, by omega, by go_num, rfl, hown, hq, by omega, by omega, HI2, HB⟩
          case measure => simp only [intOf]; omega
        · have s2 : decide (P < 0) = false := decide_eq_false hp
          have HNO : Hid (decOk l = false) := Lib.hid (HBAD.out (k + 1) (by
            rw [HTS.out, pok_bad _ c hd (fun _ => ?_)]
            cases e : (cut1 46 (t.take k)).2.2 with
            | true => rfl
            | false => have := pt_none _ e; have := HI.out.2.2.1; omega))
          clear hu46 h46 hd hc
          go_wp2_with fail
          refine KD.out.mono ?_
          clear KD
          rintro e wx ⟨rfl, hwx⟩; obtain rfl := hwx.symm
          go_wp2_with fail
          first | exact FNO.out _ _ _ _ _ _ HNO.out HB.out | ((try simp only [Exit.inBlock, Exit.then]); refine bodyPost_ret (results_tmp4 rfl _ _ _) rfl ?_; exact FNO.out _ _ _ _ _ _ HNO.out HB.out)
      · have s1 : (((c.toNat : Nat) : Int) == 46) = false := by rw [hu46, beq_eq_false_iff_ne]; exact h46
        cases hd : isDig c with
        | false =>
          rw [hd] at KD
          have HNO : Hid (decOk l = false) := Lib.hid (HBAD.out (k + 1) (by rw [HTS.out, pok_bad _ c hd (fun e => absurd e h46)]))
          clear hu46 h46 hd hc
          go_wp2_with fail
          refine KD.out.mono ?_
          clear KD
          rintro e wx ⟨rfl, hwx⟩; obtain rfl := hwx.symm
          go_wp2_with fail
          first | exact FNO.out _ _ _ _ _ _ HNO.out HB.out | ((try simp only [Exit.inBlock, Exit.then]); refine bodyPost_ret (results_tmp4 rfl _ _ _) rfl ?_; exact FNO.out _ _ _ _ _ _ HNO.out HB.out)
        | true =>
          rw [hd] at KD
          have hdc := (isDig_iff c).1 hd
          have hdv : (c.toNat : Int) - 48 = (dv c : Int) := by unfold dv; omega
          have HI2 : Hid (ds ++ [((dv c : Nat) : Int)] = dis (pds (t.take (k + 1))) ∧ q + 1 = (pds (t.take (k + 1))).length ∧ P = ptI (t.take (k + 1)) ∧ pok (t.take (k + 1)) = true) := Lib.hid (by
            obtain ⟨i1, i2, i3, i4⟩ := HI.out
            rw [HTS.out]
            obtain ⟨p1, p2, _⟩ := pok_dig (t.take k) c hd
            rw [p1, p2, pt_dig _ c hd, dis_snoc, List.length_append, ← i1, ← i2]
            exact ⟨rfl, rfl, i3, i4⟩)
          have hq20 : q + 1 ≤ 20 := by
            have h1 := HI2.out.2.1
            have h2 := pds_take_len t (k + 1)
            omega
          have w9 : IntKind.i64.wrap ((c.toNat : Int) - 48) = (dv c : Int) := by rw [IntKind.wrap_i64]; omega
          clear hu46 h46 hd hc hdc hdv
          generalize (dv c : Int) = y at *
          generalize (c.toNat : Int) = x at *
          go_wp2_with fail
          refine KD.out.mono ?_
          clear KD
          rintro e wx ⟨rfl, hwx⟩; obtain rfl := hwx.symm
          go_wp2_with (at_builtin; refine wpList_append_lies _ rfl (.tmp 54) (.tmp 60) _ rfl w.heap.size 3 i0 _ 1 8 Tryd.underlying40 hi0 hz0 hz1 hz2 rfl (by decide) _ q (cellsI ds) rfl (hown.alloc _) ⟨wr.heap.size, 0, none⟩ 1 1 [.int .i64 _] rfl rfl (World.news_of_block (heap_alloc_new _ _)) (by simp [Value.oneCell']) (by decide) (by unfold maxLen; omega) (by omega) (by simp; omega) _ rfl ?_; intro g4 cap4 w4 hown4 hgr4 hat4 hlt4)
          go_roundw
          case rel =>
            refine ⟨k + 1, q + 1, P, ds ++ [y], by omega, by go_num, rfl, by simpa [cellsI] using hown4, hq20, hP1, hP2, HI2, Lib.hid ?_⟩
            exact (HB.out.alloc (by omega) _).grown hgr4 (by simp; omega) (fun j hj => by have := hbk4 j hj; omega)
          case measure => simp only [intOf]; omega
    · have s0 : decide ((k : Int) + 1 < (l.length : Int)) = false := decide_eq_false (by have := hll.out; omega)
      obtain rfl : t.length = k := by omega
      have HI2 : Hid (ds = dis (pds t) ∧ q = (pds t).length ∧ P = ptI t ∧ pok t = true) := Lib.hid (by have := HI.out; rwa [List.take_length] at this)
      have HO2 : Hid (decOk l = decide (0 < q)) := Lib.hid (by rw [HOK.out HI2.out.2.2.2, HI2.out.2.1])
      have HOWN : Hid (wr.ownsRow w.heap.size 3 1 (.slice A' q c') q (cellsI (dis (pds t)))) := Lib.hid (by rw [← HI2.out.1]; exact hown)
      have HV : Hid ((if P < 0 then (q : Int) - (q : Int) else (q : Int) - P) = ((cut1 46 t).2.1.length : Int)) := Lib.hid (by
        have h1 := HPB.out
        rw [← HI2.out.2.1, ← HI2.out.2.2.1] at h1
        rw [← h1]
        split <;> rfl)
      clear hown hbk4 HI
      by_cases hp : P < 0
      · have s2 : decide (P < 0) = true := decide_eq_true hp
        have HV2 : Hid (0 = ((cut1 46 t).2.1.length : Int)) := Lib.hid (by have := HV.out; rw [if_pos hp] at this; omega)
        by_cases hq0 : 0 < q
        · have s3 : decide ((0 : Int) < (q : Int)) = true := decide_eq_true (by omega)
          have s3n : decide (0 < q) = true := decide_eq_true hq0
          have HY : Hid (decOk l = true) := Lib.hid (by rw [HO2.out]; exact s3n)
          go_wp2_with fail
          first | exact FYES.out _ _ _ _ _ HY.out HI2.out.2.1 HV2.out HOWN.out HB.out | ((try simp only [Exit.inBlock, Exit.then]); refine bodyPost_ret (results_tmp4 rfl _ _ _) rfl ?_; exact FYES.out _ _ _ _ _ HY.out HI2.out.2.1 HV2.out HOWN.out HB.out)
        · have s3 : decide ((0 : Int) < (q : Int)) = false := decide_eq_false (by omega)
          have s3n : decide (0 < q) = false := decide_eq_false hq0
          have HN : Hid (decOk l = false) := Lib.hid (by rw [HO2.out]; exact s3n)
          go_wp2_with fail
          first | exact FNO.out _ _ _ _ _ _ HN.out HB.out | ((try simp only [Exit.inBlock, Exit.then]); refine bodyPost_ret (results_tmp4 rfl _ _ _) rfl ?_; exact FNO.out _ _ _ _ _ _ HN.out HB.out)
      · have s2 : decide (P < 0) = false := decide_eq_false hp
        have HV2 : Hid ((q : Int) - P = ((cut1 46 t).2.1.length : Int)) := Lib.hid (by have := HV.out; rwa [if_neg hp] at this)
        have wv : IntKind.i64.wrap ((q : Int) - P) = (q : Int) - P := by rw [IntKind.wrap_i64]; omega
        by_cases hq0 : 0 < q
        · have s3 : decide ((0 : Int) < (q : Int)) = true := decide_eq_true (by omega)
          have s3n : decide (0 < q) = true := decide_eq_true hq0
          have HY : Hid (decOk l = true) := Lib.hid (by rw [HO2.out]; exact s3n)
          go_wp2_with fail
          first | exact FYES.out _ _ _ _ _ HY.out HI2.out.2.1 HV2.out HOWN.out HB.out | ((try simp only [Exit.inBlock, Exit.then]); refine bodyPost_ret (results_tmp4 rfl _ _ _) rfl ?_; exact FYES.out _ _ _ _ _ HY.out HI2.out.2.1 HV2.out HOWN.out HB.out)
        · have s3 : decide ((0 : Int) < (q : Int)) = false := decide_eq_false (by omega)
          have s3n : decide (0 < q) = false := decide_eq_false hq0
          have HN : Hid (decOk l = false) := Lib.hid (by rw [HO2.out]; exact s3n)
          go_wp2_with fail
          first | exact FNO.out _ _ _ _ _ _ HN.out HB.out | ((try simp only [Exit.inBlock, Exit.then]); refine bodyPost_ret (results_tmp4 rfl _ _ _) rfl ?_; exact FNO.out _ _ _ _ _ _ HN.out HB.out)
set_option maxHeartbeats 3200000 in
theorem parts_plus (l t : List UInt8) (w : World) (hl : l.length ≤ 20) (hll0 : l = 43 :: t) : Calls Tryd.prog 46 #[.string ⟨l.toArray⟩] w (PartsR w l) := by
  obtain ⟨i0, hi0, hz0, hz1, hz2⟩ := info_parts size_int'
  have hS : signedS l = (t, false) := by rw [hll0]; exact signed_plus t
  have hlen : l.length = t.length + 1 := by rw [hll0]; simp
  have hget : ∀ (k : Nat) (c : UInt8), t[k]? = some c → l[k + 1]? = some c := fun k c h => by rw [hll0]; simpa using h
  have a0 : decide ((0 : Int) < (l.length : Int)) = true := decide_eq_true (by omega)
  have a0n : decide (0 < l.length) = true := decide_eq_true (by omega)
  have hi : ∀ W, Sem.run Tryd.prog (Instr.index 9 (.string ⟨l.toArray⟩) (.int .i64 0)) W = .ok (.int .u8 43) W := idx_str l 0 0 43 (by rw [hll0]; rfl) rfl
  clear hll0
  have hS1 : (signedS l).1 = t := by rw [hS]
  have hS2 : (signedS l).2 = false := by rw [hS]
  have FNO : Hid (∀ bb A n c v w', decOk l = false → Below w.heap.size w w' → PartsR w l (.returned (.tuple #[.bool bb, .slice A n c, .int .i64 v, .bool false])) w') := Lib.hid fun bb A n c v w' h hb => ⟨hb, .inl ⟨h, bb, A, n, c, v, rfl⟩⟩
  have FYES : Hid (∀ A q c v w', decOk l = true → q = (pds t).length → v = ((cut1 46 t).2.1.length : Int) → w'.ownsRow w.heap.size 3 1 (.slice A q c) q (cellsI (dis (pds t))) → Below w.heap.size w w' → PartsR w l (.returned (.tuple #[.bool false, .slice A q c, .int .i64 v, .bool true])) w') := Lib.hid (by
    rintro A q c v w' h rfl rfl ho hb
    refine ⟨hb, .inr ⟨h, A, c, ?_, ?_⟩⟩
    · rw [hS1, hS2]
    · rw [hS1]; exact ho)
  generalize hQ : PartsR w l = Qp at FNO FYES ⊢
  clear hQ
  have HOK : Hid (pok t = true → decOk l = decide (0 < (pds t).length)) := Lib.hid fun h => by rw [dec_ok l hl (by rw [hS1]; exact h), hS1]
  have HBAD : Hid (∀ k, pok (t.take k) = false → decOk l = false) := Lib.hid fun k h => dec_bad_pre l (t.take k) (t.drop k) (by rw [hS1, List.take_append_drop]) h
  have HPB := Lib.hid (pt_behind t)
  have hll := Lib.hid hlen
  have HGET := Lib.hid hget
  clear hS hS1 hS2 hlen hget
  have tl : decide ((20 : Int) < (l.length : Int)) = false := decide_eq_false (by omega)
  have htl : t.length ≤ 20 := by have := hll.out; omega
  go_enter Tryd.func46, Tryd.ntmps46
  go_wp2_with fail
  go_loopw [8, 9, 10] (fun u p i wr => ∃ (k q : Nat) (P : Int) (ds : List Int), k ≤ t.length ∧ i = .int .i64 ((k : Int) + 1) ∧ p = .int .i64 P ∧ wr.ownsRow w.heap.size 3 1 u q (cellsI ds) ∧ q ≤ 20 ∧ -1 ≤ P ∧ P ≤ 20 ∧ Hid (ds = dis (pds (t.take k)) ∧ q = (pds (t.take k)).length ∧ P = ptI (t.take k) ∧ pok (t.take k) = true) ∧ Hid (Below w.heap.size w wr)) (fun _ _ i _ => 30 - (intOf i).toNat)
  case atStart => exact ⟨0, 0, -1, [], by omega, rfl, rfl, World.ownsRow_nil _ _ _ _, by omega, by omega, by omega, Lib.hid ⟨rfl, rfl, rfl, rfl⟩, Lib.hid (Below.refl _ _)⟩
  case round =>
    obtain ⟨k, q, P, ds, hk, rfl, rfl, hown, hq, hP1, hP2, HI, HB⟩ := hrel
    obtain ⟨A', c', rfl⟩ := own_shape hown
    have hbk4 : ∀ j, (Value.slice A' q c').ownBlock = some j → w.heap.size ≤ j := fun j hj => (hown.lt j hj).1
    have hzw : w.heap.size ≤ wr.heap.size := HB.out.size
    by_cases hlt : k < t.length
    · have s0 : decide ((k : Int) + 1 < (l.length : Int)) = true := decide_eq_true (by have := hll.out; omega)
      obtain ⟨c, hc⟩ : ∃ c, t[k]? = some c := ⟨_, List.getElem?_eq_getElem hlt⟩
      have hik := idx_str l (k + 1) ((k : Int) + 1) c (HGET.out k c hc) (by omega)
      have KD := Lib.hid (rdigit_any c wr)
      have HTS : Hid (t.take (k + 1) = t.take k ++ [c]) := Lib.hid (take_snoc' _ _ _ hc)
      have c8 := c.toNat_lt
      have w8 : IntKind.i64.wrap ((c.toNat : Nat) : Int) = (c.toNat : Int) := by rw [IntKind.wrap_i64]; omega
      have hu46 := u8_eq c 46 (by decide)
      rw [show ((46 : Nat) : Int) = (46 : Int) from rfl, show UInt8.ofNat 46 = (46 : UInt8) from rfl] at hu46
      by_cases h46 : c = 46
      · have s1 : (((c.toNat : Nat) : Int) == 46) = true := by rw [hu46, h46]; rfl
        have hd : isDig c = false := by rw [h46]; decide
        rw [hd] at KD
        by_cases hp : P < 0
        · have s2 : decide (P < 0) = true := decide_eq_true hp
          have hfl : (cut1 46 (t.take k)).2.2 = false := by
            cases e : (cut1 46 (t.take k)).2.2 with
            | false => rfl
            | true => have := (pt_some _ e).1; have := HI.out.2.2.1; omega
          have HI2 : Hid (ds = dis (pds (t.take (k + 1))) ∧ q = (pds (t.take (k + 1))).length ∧ (q : Int) = ptI (t.take (k + 1)) ∧ pok (t.take (k + 1)) = true) := Lib.hid (by
            obtain ⟨i1, i2, i3, i4⟩ := HI.out
            rw [HTS.out, h46]
            obtain ⟨p1, p2, _, _, _⟩ := pok_point (t.take k) hfl
            rw [p1, p2, pt_point _ hfl]
            exact ⟨i1, i2, by rw [i2], i4⟩)
          clear hu46 h46 hd hfl hc KD c8
          go_wp2_with fail
          go_roundw
          case rel => exact ⟨k + 1, q, (q : Int), ds, by omega, by go_num, rfl, hown, hq, by omega, by omega, HI2, HB⟩
          case measure => simp only [intOf]; omega
        · have s2 : decide (P < 0) = false := decide_eq_false hp
          have HNO : Hid (decOk l = false) := Lib.hid (HBAD.out (k + 1) (by
            rw [HTS.out, pok_bad _ c hd (fun _ => ?_)]
            cases e : (cut1 46 (t.take k)).2.2 with
            | true => rfl
            | false => have := pt_none _ e; have := HI.out.2.2.1; omega))
          clear hu46 h46 hd hc
          go_wp2_with fail
          refine KD.out.mono ?_
          clear KD
          rintro e wx ⟨rfl, hwx⟩; obtain rfl := hwx.symm
          go_wp2_with fail
          first | exact FNO.out _ _ _ _ _ _ HNO.out HB.out | ((try simp only [Exit.inBlock, Exit.then]); refine bodyPost_ret (results_tmp4 rfl _ _ _) rfl ?_; exact FNO.out _ _ _ _ _ _ HNO.out HB.out)
      · have s1 : (((c.toNat : Nat) : Int) == 46) = false := by rw [hu46, beq_eq_false_iff_ne]; exact h46
        cases hd : isDig c with
        | false =>
          rw [hd] at KD
          have HNO : Hid (decOk l = false) := Lib.hid (HBAD.out (k + 1) (by rw [HTS.out, pok_bad _ c hd (fun e => absurd e h46)]))
          clear hu46 h46 hd hc
          go_wp2_with fail
          refine KD.out.mono ?_
          clear KD
          rintro e wx ⟨rfl, hwx⟩; obtain rfl := hwx.symm
          go_wp2_with fail
          first | exact FNO.out _ _ _ _ _ _ HNO.out HB.out | ((try simp only [Exit.inBlock, Exit.then]); refine bodyPost_ret (results_tmp4 rfl _ _ _) rfl ?_; exact FNO.out _ _ _ _ _ _ HNO.out HB.out)
        | true =>
          rw [hd] at KD
          have hdc := (isDig_iff c).1 hd
          have hdv : (c.toNat : Int) - 48 = (dv c : Int) := by unfold dv; omega
          have HI2 : Hid (ds ++ [((dv c : Nat) : Int)] = dis (pds (t.take (k + 1))) ∧ q + 1 = (pds (t.take (k + 1))).length ∧ P = ptI (t.take (k + 1)) ∧ pok (t.take (k + 1)) = true) := Lib.hid (by
            obtain ⟨i1, i2, i3, i4⟩ := HI.out
            rw [HTS.out]
            obtain ⟨p1, p2, _⟩ := pok_dig (t.take k) c hd
            rw [p1, p2, pt_dig _ c hd, dis_snoc, List.length_append, ← i1, ← i2]
            exact ⟨rfl, rfl, i3, i4⟩)
          have hq20 : q + 1 ≤ 20 := by
            have h1 := HI2.out.2.1
            have h2 := pds_take_len t (k + 1)
            omega
          have w9 : IntKind.i64.wrap ((c.toNat : Int) - 48) = (dv c : Int) := by rw [IntKind.wrap_i64]; omega
          clear hu46 h46 hd hc hdc hdv
          generalize (dv c : Int) = y at *
          generalize (c.toNat : Int) = x at *
          go_wp2_with fail
          refine KD.out.mono ?_
          clear KD
          rintro e wx ⟨rfl, hwx⟩; obtain rfl := hwx.symm
          go_wp2_with (at_builtin; refine wpList_append_lies _ rfl (.tmp 54) (.tmp 60) _ rfl w.heap.size 3 i0 _ 1 8 Tryd.underlying40 hi0 hz0 hz1 hz2 rfl (by decide) _ q (cellsI ds) rfl (hown.alloc _) ⟨wr.heap.size, 0, none⟩ 1 1 [.int .i64 _] rfl rfl (World.news_of_block (heap_alloc_new _ _)) (by simp [Value.oneCell']) (by decide) (by unfold maxLen; omega) (by omega) (by simp; omega) _ rfl ?_; intro g4 cap4 w4 hown4 hgr4 hat4 hlt4)
          go_roundw
          case rel =>
            refine ⟨k + 1, q + 1, P, ds ++ [y], by omega, by go_num, rfl, by simpa [cellsI] using hown4, hq20, hP1, hP2, HI2, Lib.hid ?_⟩
            exact (HB.out.alloc (by omega) _).grown hgr4 (by simp; omega) (fun j hj => by have := hbk4 j hj; omega)
          case measure => simp only [intOf]; omega
    · have s0 : decide ((k : Int) + 1 < (l.length : Int)) = false := decide_eq_false (by have := hll.out; omega)
      obtain rfl : t.length = k := by omega
      have HI2 : Hid (ds = dis (pds t) ∧ q = (pds t).length ∧ P = ptI t ∧ pok t = true) := Lib.hid (by have := HI.out; rwa [List.take_length] at this)
      have HO2 : Hid (decOk l = decide (0 < q)) := Lib.hid (by rw [HOK.out HI2.out.2.2.2, HI2.out.2.1])
      have HOWN : Hid (wr.ownsRow w.heap.size 3 1 (.slice A' q c') q (cellsI (dis (pds t)))) := Lib.hid (by rw [← HI2.out.1]; exact hown)
      have HV : Hid ((if P < 0 then (q : Int) - (q : Int) else (q : Int) - P) = ((cut1 46 t).2.1.length : Int)) := Lib.hid (by
        have h1 := HPB.out
        rw [← HI2.out.2.1, ← HI2.out.2.2.1] at h1
        rw [← h1]
        split <;> rfl)
      clear hown hbk4 HI
      by_cases hp : P < 0
      · have s2 : decide (P < 0) = true := decide_eq_true hp
        have HV2 : Hid (0 = ((cut1 46 t).2.1.length : Int)) := Lib.hid (by have := HV.out; rw [if_pos hp] at this; omega)
        by_cases hq0 : 0 < q
        · have s3 : decide ((0 : Int) < (q : Int)) = true := decide_eq_true (by omega)
          have s3n : decide (0 < q) = true := decide_eq_true hq0
          have HY : Hid (decOk l = true) := Lib.hid (by rw [HO2.out]; exact s3n)
          go_wp2_with fail
          first | exact FYES.out _ _ _ _ _ HY.out HI2.out.2.1 HV2.out HOWN.out HB.out | ((try simp only [Exit.inBlock, Exit.then]); refine bodyPost_ret (results_tmp4 rfl _ _ _) rfl ?_; exact FYES.out _ _ _ _ _ HY.out HI2.out.2.1 HV2.out HOWN.out HB.out)
        · have s3 : decide ((0 : Int) < (q : Int)) = false := decide_eq_false (by omega)
          have s3n : decide (0 < q) = false := decide_eq_false hq0
          have HN : Hid (decOk l = false) := Lib.hid (by rw [HO2.out]; exact s3n)
          go_wp2_with fail
          first | exact FNO.out _ _ _ _ _ _ HN.out HB.out | ((try simp only [Exit.inBlock, Exit.then]); refine bodyPost_ret (results_tmp4 rfl _ _ _) rfl ?_; exact FNO.out _ _ _ _ _ _ HN.out HB.out)
      · have s2 : decide (P < 0) = false := decide_eq_false hp
        have HV2 : Hid ((q : Int) - P = ((cut1 46 t).2.1.length : Int)) := Lib.hid (by have := HV.out; rwa [if_neg hp] at this)
        have wv : IntKind.i64.wrap ((q : Int) - P) = (q : Int) - P := by rw [IntKind.wrap_i64]; omega
        by_cases hq0 : 0 < q
        · have s3 : decide ((0 : Int) < (q : Int)) = true := decide_eq_true (by omega)
          have s3n : decide (0 < q) = true := decide_eq_true hq0
          have HY : Hid (decOk l = true) := Lib.hid (by rw [HO2.out]; exact s3n)
          go_wp2_with fail
          first | exact FYES.out _ _ _ _ _ HY.out HI2.out.2.1 HV2.out HOWN.out HB.out | ((try simp only [Exit.inBlock, Exit.then]); refine bodyPost_ret (results_tmp4 rfl _ _ _) rfl ?_; exact FYES.out _ _ _ _ _ HY.out HI2.out.2.1 HV2.out HOWN.out HB.out)
        · have s3 : decide ((0 : Int) < (q : Int)) = false := decide_eq_false (by omega)
          have s3n : decide (0 < q) = false := decide_eq_false hq0
          have HN : Hid (decOk l = false) := Lib.hid (by rw [HO2.out]; exact s3n)
          go_wp2_with fail
          first | exact FNO.out _ _ _ _ _ _ HN.out HB.out | ((try simp only [Exit.inBlock, Exit.then]); refine bodyPost_ret (results_tmp4 rfl _ _ _) rfl ?_; exact FNO.out _ _ _ _ _ _ HN.out HB.out)
set_option maxHeartbeats 3200000 in
theorem parts_plain (l t : List UInt8) (w : World) (hl : l.length ≤ 20) (hll0 : l = t) (h45 : l.head? ≠ some 45) (h43 : l.head? ≠ some 43) (hne : 0 < l.length) : Calls Tryd.prog 46 #[.string ⟨l.toArray⟩] w (PartsR w l) := by
  obtain ⟨i0, hi0, hz0, hz1, hz2⟩ := info_parts size_int'
  have hS : signedS l = (t, false) := by rw [← hll0]; exact signed_none l h45 h43
  have hlen : l.length = t.length := by rw [hll0]
  have hget : ∀ (k : Nat) (c : UInt8), t[k]? = some c → l[k]? = some c := fun k c h => by rw [hll0]; exact h
  have a0 : decide ((0 : Int) < (l.length : Int)) = true := decide_eq_true (by omega)
  have a0n : decide (0 < l.length) = true := decide_eq_true (by omega)
  obtain ⟨c0, hc0⟩ : ∃ c, l[0]? = some c := ⟨_, List.getElem?_eq_getElem (by omega)⟩
  have hi0' := idx_str l 0 0 c0 hc0 rfl
  have z45 : (((c0.toNat : Nat) : Int) == 45) = false := by
    rw [show (45 : Int) = ((45 : Nat) : Int) from rfl, u8_eq c0 45 (by decide), beq_eq_false_iff_ne]
    intro e
    exact h45 (by rw [List.head?_eq_getElem?, hc0, e]; rfl)
  have z43 : (((c0.toNat : Nat) : Int) == 43) = false := by
    rw [show (43 : Int) = ((43 : Nat) : Int) from rfl, u8_eq c0 43 (by decide), beq_eq_false_iff_ne]
    intro e
    exact h43 (by rw [List.head?_eq_getElem?, hc0, e]; rfl)
  clear hll0 h45 h43 hc0
  have hS1 : (signedS l).1 = t := by rw [hS]
  have hS2 : (signedS l).2 = false := by rw [hS]
  have FNO : Hid (∀ bb A n c v w', decOk l = false → Below w.heap.size w w' → PartsR w l (.returned (.tuple #[.bool bb, .slice A n c, .int .i64 v, .bool false])) w') := Lib.hid fun bb A n c v w' h hb => ⟨hb, .inl ⟨h, bb, A, n, c, v, rfl⟩⟩
  have FYES : Hid (∀ A q c v w', decOk l = true → q = (pds t).length → v = ((cut1 46 t).2.1.length : Int) → w'.ownsRow w.heap.size 3 1 (.slice A q c) q (cellsI (dis (pds t))) → Below w.heap.size w w' → PartsR w l (.returned (.tuple #[.bool false, .slice A q c, .int .i64 v, .bool true])) w') := Lib.hid (by
    rintro A q c v w' h rfl rfl ho hb
    refine ⟨hb, .inr ⟨h, A, c, ?_, ?_⟩⟩
    · rw [hS1, hS2]
    · rw [hS1]; exact ho)
  generalize hQ : PartsR w l = Qp at FNO FYES ⊢
  clear hQ
  have HOK : Hid (pok t = true → decOk l = decide (0 < (pds t).length)) := Lib.hid fun h => by rw [dec_ok l hl (by rw [hS1]; exact h), hS1]
  have HBAD : Hid (∀ k, pok (t.take k) = false → decOk l = false) := Lib.hid fun k h => dec_bad_pre l (t.take k) (t.drop k) (by rw [hS1, List.take_append_drop]) h
  have HPB := Lib.hid (pt_behind t)
  have hll := Lib.hid hlen
  have HGET := Lib.hid hget
  clear hS hS1 hS2 hlen hget
  have tl : decide ((20 : Int) < (l.length : Int)) = false := decide_eq_false (by omega)
  have htl : t.length ≤ 20 := by have := hll.out; omega
  go_enter Tryd.func46, Tryd.ntmps46
  go_wp2_with fail
  go_loopw [8, 9, 10] (fun u p i wr => ∃ (k q : Nat) (P : Int) (ds : List Int), k ≤ t.length ∧ i = .int .i64 ((k : Int)) ∧ p = .int .i64 P ∧ wr.ownsRow w.heap.size 3 1 u q (cellsI ds) ∧ q ≤ 20 ∧ -1 ≤ P ∧ P ≤ 20 ∧ Hid (ds = dis (pds (t.take k)) ∧ q = (pds (t.take k)).length ∧ P = ptI (t.take k) ∧ pok (t.take k) = true) ∧ Hid (Below w.heap.size w wr)) (fun _ _ i _ => 30 - (intOf i).toNat)
  case atStart => exact ⟨0, 0, -1, [], by omega, rfl, rfl, World.ownsRow_nil _ _ _ _, by omega, by omega, by omega, Lib.hid ⟨rfl, rfl, rfl, rfl⟩, Lib.hid (Below.refl _ _)⟩
  case round =>
    obtain ⟨k, q, P, ds, hk, rfl, rfl, hown, hq, hP1, hP2, HI, HB⟩ := hrel
    obtain ⟨A', c', rfl⟩ := own_shape hown
    have hbk4 : ∀ j, (Value.slice A' q c').ownBlock = some j → w.heap.size ≤ j := fun j hj => (hown.lt j hj).1
    have hzw : w.heap.size ≤ wr.heap.size := HB.out.size
    by_cases hlt : k < t.length
    · have s0 : decide ((k : Int) < (l.length : Int)) = true := decide_eq_true (by have := hll.out; omega)
      have s0n : decide (k < l.length) = true := decide_eq_true (by have := hll.out; omega)
      obtain ⟨c, hc⟩ : ∃ c, t[k]? = some c := ⟨_, List.getElem?_eq_getElem hlt⟩
      have hik := idx_str l k ((k : Int)) c (HGET.out k c hc) (by omega)
      have KD := Lib.hid (rdigit_any c wr)
      have HTS : Hid (t.take (k + 1) = t.take k ++ [c]) := Lib.hid (take_snoc' _ _ _ hc)
      have c8 := c.toNat_lt
      have w8 : IntKind.i64.wrap ((c.toNat : Nat) : Int) = (c.toNat : Int) := by rw [IntKind.wrap_i64]; omega
      have hu46 := u8_eq c 46 (by decide)
      rw [show ((46 : Nat) : Int) = (46 : Int) from rfl, show UInt8.ofNat 46 = (46 : UInt8) from rfl] at hu46
      by_cases h46 : c = 46
      · have s1 : (((c.toNat : Nat) : Int) == 46) = true := by rw [hu46, h46]; rfl
        have hd : isDig c = false := by rw [h46]; decide
        rw [hd] at KD
        by_cases hp : P < 0
        · have s2 : decide (P < 0) = true := decide_eq_true hp
          have hfl : (cut1 46 (t.take k)).2.2 = false := by
            cases e : (cut1 46 (t.take k)).2.2 with
            | false => rfl
            | true => have := (pt_some _ e).1; have := HI.out.2.2.1; omega
          have HI2 : Hid (ds = dis (pds (t.take (k + 1))) ∧ q = (pds (t.take (k + 1))).length ∧ (q : Int) = ptI (t.take (k + 1)) ∧ pok (t.take (k + 1)) = true) := Lib.hid (by
            obtain ⟨i1, i2, i3, i4⟩ := HI.out
            rw [HTS.out, h46]
            obtain ⟨p1, p2, _, _, _⟩ := pok_point (t.take k) hfl
            rw [p1, p2, pt_point _ hfl]
            exact ⟨i1, i2, by rw [i2], i4⟩)
          clear hu46 h46 hd hfl hc KD c8
          go_wp2_with fail
          go_roundw
          case rel => exact ⟨k + 1, q, (q : Int), ds, by omega, by go_num, rfl, hown, hq, by omega, by omega, HI2, HB⟩
          case measure => simp only [intOf]; omega
        · have s2 : decide (P < 0) = false := decide_eq_false hp
          have HNO : Hid (decOk l = false) := Lib.hid (HBAD.out (k + 1) (by
            rw [HTS.out, pok_bad _ c hd (fun _ => ?_)]
            cases e : (cut1 46 (t.take k)).2.2 with
            | true => rfl
            | false => have := pt_none _ e; have := HI.out.2.2.1; omega))
          clear hu46 h46 hd hc
          go_wp2_with fail
          refine KD.out.mono ?_
          clear KD
          rintro e wx ⟨rfl, hwx⟩; obtain rfl := hwx.symm
          go_wp2_with fail
          first | exact FNO.out _ _ _ _ _ _ HNO.out HB.out | ((try simp only [Exit.inBlock, Exit.then]); refine bodyPost_ret (results_tmp4 rfl _ _ _) rfl ?_; exact FNO.out _ _ _ _ _ _ HNO.out HB.out)
      · have s1 : (((c.toNat : Nat) : Int) == 46) = false := by rw [hu46, beq_eq_false_iff_ne]; exact h46
        cases hd : isDig c with
        | false =>
          rw [hd] at KD
          have HNO : Hid (decOk l = false) := Lib.hid (HBAD.out (k + 1) (by rw [HTS.out, pok_bad _ c hd (fun e => absurd e h46)]))
          clear hu46 h46 hd hc
          go_wp2_with fail
          refine KD.out.mono ?_
          clear KD
          rintro e wx ⟨rfl, hwx⟩; obtain rfl := hwx.symm
          go_wp2_with fail
          first | exact FNO.out _ _ _ _ _ _ HNO.out HB.out | ((try simp only [Exit.inBlock, Exit.then]); refine bodyPost_ret (results_tmp4 rfl _ _ _) rfl ?_; exact FNO.out _ _ _ _ _ _ HNO.out HB.out)
        | true =>
          rw [hd] at KD
          have hdc := (isDig_iff c).1 hd
          have hdv : (c.toNat : Int) - 48 = (dv c : Int) := by unfold dv; omega
          have HI2 : Hid (ds ++ [((dv c : Nat) : Int)] = dis (pds (t.take (k + 1))) ∧ q + 1 = (pds (t.take (k + 1))).length ∧ P = ptI (t.take (k + 1)) ∧ pok (t.take (k + 1)) = true) := Lib.hid (by
            obtain ⟨i1, i2, i3, i4⟩ := HI.out
            rw [HTS.out]
            obtain ⟨p1, p2, _⟩ := pok_dig (t.take k) c hd
            rw [p1, p2, pt_dig _ c hd, dis_snoc, List.length_append, ← i1, ← i2]
            exact ⟨rfl, rfl, i3, i4⟩)
          have hq20 : q + 1 ≤ 20 := by
            have h1 := HI2.out.2.1
            have h2 := pds_take_len t (k + 1)
            omega
          have w9 : IntKind.i64.wrap ((c.toNat : Int) - 48) = (dv c : Int) := by rw [IntKind.wrap_i64]; omega
          clear hu46 h46 hd hc hdc hdv
          generalize (dv c : Int) = y at *
          generalize (c.toNat : Int) = x at *
          go_wp2_with fail
          refine KD.out.mono ?_
          clear KD
          rintro e wx ⟨rfl, hwx⟩; obtain rfl := hwx.symm
          go_wp2_with (at_builtin; refine wpList_append_lies _ rfl (.tmp 54) (.tmp 60) _ rfl w.heap.size 3 i0 _ 1 8 Tryd.underlying40 hi0 hz0 hz1 hz2 rfl (by decide) _ q (cellsI ds) rfl (hown.alloc _) ⟨wr.heap.size, 0, none⟩ 1 1 [.int .i64 _] rfl rfl (World.news_of_block (heap_alloc_new _ _)) (by simp [Value.oneCell']) (by decide) (by unfold maxLen; omega) (by omega) (by simp; omega) _ rfl ?_; intro g4 cap4 w4 hown4 hgr4 hat4 hlt4)
          go_roundw
          case rel =>
            refine ⟨k + 1, q + 1, P, ds ++ [y], by omega, by go_num, rfl, by simpa [cellsI] using hown4, hq20, hP1, hP2, HI2, Lib.hid ?_⟩
            exact (HB.out.alloc (by omega) _).grown hgr4 (by simp; omega) (fun j hj => by have := hbk4 j hj; omega)
          case measure => simp only [intOf]; omega
    · have s0 : decide ((k : Int) < (l.length : Int)) = false := decide_eq_false (by have := hll.out; omega)
      have s0n : decide (k < l.length) = false := decide_eq_false (by have := hll.out; omega)
      obtain rfl : t.length = k := by omega
      have HI2 : Hid (ds = dis (pds t) ∧ q = (pds t).length ∧ P = ptI t ∧ pok t = true) := Lib.hid (by have := HI.out; rwa [List.take_length] at this)
      have HO2 : Hid (decOk l = decide (0 < q)) := Lib.hid (by rw [HOK.out HI2.out.2.2.2, HI2.out.2.1])
      have HOWN : Hid (wr.ownsRow w.heap.size 3 1 (.slice A' q c') q (cellsI (dis (pds t)))) := Lib.hid (by rw [← HI2.out.1]; exact hown)
      have HV : Hid ((if P < 0 then (q : Int) - (q : Int) else (q : Int) - P) = ((cut1 46 t).2.1.length : Int)) := Lib.hid (by
        have h1 := HPB.out
        rw [← HI2.out.2.1, ← HI2.out.2.2.1] at h1
        rw [← h1]
        split <;> rfl)
      clear hown hbk4 HI
      by_cases hp : P < 0
      · have s2 : decide (P < 0) = true := decide_eq_true hp
        have HV2 : Hid (0 = ((cut1 46 t).2.1.length : Int)) := Lib.hid (by have := HV.out; rw [if_pos hp] at this; omega)
        by_cases hq0 : 0 < q
        · have s3 : decide ((0 : Int) < (q : Int)) = true := decide_eq_true (by omega)
          have s3n : decide (0 < q) = true := decide_eq_true hq0
          have HY : Hid (decOk l = true) := Lib.hid (by rw [HO2.out]; exact s3n)
          go_wp2_with fail
          first | exact FYES.out _ _ _ _ _ HY.out HI2.out.2.1 HV2.out HOWN.out HB.out | ((try simp only [Exit.inBlock, Exit.then]); refine bodyPost_ret (results_tmp4 rfl _ _ _) rfl ?_; exact FYES.out _ _ _ _ _ HY.out HI2.out.2.1 HV2.out HOWN.out HB.out)
        · have s3 : decide ((0 : Int) < (q : Int)) = false := decide_eq_false (by omega)
          have s3n : decide (0 < q) = false := decide_eq_false hq0
          have HN : Hid (decOk l = false) := Lib.hid (by rw [HO2.out]; exact s3n)
          go_wp2_with fail
          first | exact FNO.out _ _ _ _ _ _ HN.out HB.out | ((try simp only [Exit.inBlock, Exit.then]); refine bodyPost_ret (results_tmp4 rfl _ _ _) rfl ?_; exact FNO.out _ _ _ _ _ _ HN.out HB.out)
      · have s2 : decide (P < 0) = false := decide_eq_false hp
        have HV2 : Hid ((q : Int) - P = ((cut1 46 t).2.1.length : Int)) := Lib.hid (by have := HV.out; rwa [if_neg hp] at this)
        have wv : IntKind.i64.wrap ((q : Int) - P) = (q : Int) - P := by rw [IntKind.wrap_i64]; omega
        by_cases hq0 : 0 < q
        · have s3 : decide ((0 : Int) < (q : Int)) = true := decide_eq_true (by omega)
          have s3n : decide (0 < q) = true := decide_eq_true hq0
          have HY : Hid (decOk l = true) := Lib.hid (by rw [HO2.out]; exact s3n)
          go_wp2_with fail
          first | exact FYES.out _ _ _ _ _ HY.out HI2.out.2.1 HV2.out HOWN.out HB.out | ((try simp only [Exit.inBlock, Exit.then]); refine bodyPost_ret (results_tmp4 rfl _ _ _) rfl ?_; exact FYES.out _ _ _ _ _ HY.out HI2.out.2.1 HV2.out HOWN.out HB.out)
        · have s3 : decide ((0 : Int) < (q : Int)) = false := decide_eq_false (by omega)
          have s3n : decide (0 < q) = false := decide_eq_false hq0
          have HN : Hid (decOk l = false) := Lib.hid (by rw [HO2.out]; exact s3n)
          go_wp2_with fail
          first | exact FNO.out _ _ _ _ _ _ HN.out HB.out | ((try simp only [Exit.inBlock, Exit.then]); refine bodyPost_ret (results_tmp4 rfl _ _ _) rfl ?_; exact FNO.out _ _ _ _ _ _ HN.out HB.out)
theorem parts_nil (w : World) : Calls Tryd.prog 46 #[.string ⟨#[]⟩] w (PartsR w []) := by
  have GNO : Hid (∀ bb A n c v, PartsR w [] (.returned (.tuple #[.bool bb, .slice A n c, .int .i64 v, .bool false])) w) := Lib.hid fun bb A n c v => ⟨Below.refl _ _, .inl ⟨by decide, bb, A, n, c, v, rfl⟩⟩
  generalize PartsR w [] = Qp at GNO ⊢
  go_enter Tryd.func46, Tryd.ntmps46
  go_wp2_with fail
  go_loopw [8, 9, 10] (fun u p i wr => u = .slice none 0 0 ∧ p = .int .i64 (-1) ∧ i = .int .i64 0 ∧ wr = w) (fun _ _ _ _ => 0)
  case atStart => exact ⟨rfl, rfl, rfl, rfl⟩
  case round =>
    obtain ⟨rfl, rfl, rfl, rfl⟩ := hrel
    go_wp2_with fail
    first | exact GNO.out _ _ _ _ _ | ((try simp only [Exit.inBlock, Exit.then]); refine bodyPost_ret (results_tmp4 rfl _ _ _) rfl ?_; exact GNO.out _ _ _ _ _)
theorem parts_any (l : List UInt8) (w : World) (hl : l.length ≤ 100000) : Calls Tryd.prog 46 #[.string ⟨l.toArray⟩] w (PartsR w l) := by
  by_cases h20 : 20 < l.length
  · exact parts_bad_len l w h20 hl
  by_cases h45 : ∃ t, l = 45 :: t
  · obtain ⟨t, h⟩ := h45
    exact parts_minus l t w (by omega) h
  by_cases h43 : ∃ t, l = 43 :: t
  · obtain ⟨t, h⟩ := h43
    exact parts_plus l t w (by omega) h
  cases l with
  | nil => exact parts_nil w
  | cons a r => exact parts_plain (a :: r) (a :: r) w (by omega) rfl (fun e => h45 ⟨r, by simp at e; rw [e]⟩) (fun e => h43 ⟨r, by simp at e; rw [e]⟩) (by simp)
end Go.Proofs.YtkdffcoofijhkaaDoor
