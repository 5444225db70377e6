/-
  THE WALK OF THE LAW DilateKeeps.
-/
import Derived.Test.YtmkmmkpigpbkiaaDilPlain
import Derived.Test.YtmkmmkpigpbkiaaMix
set_option linter.unusedVariables false
set_option linter.unusedSimpArgs false
namespace Go.Proofs.Ytmkmmkpigpbkiaa
open Go.RowKit

set_option maxRecDepth 100000 in
set_option maxHeartbeats 6400000 in
theorem keeps_law (A : Option Addr) (n c : Nat) (v : List Int) (ww pad : Int) (w : World) (hI : Ints w w.heap.size A n v) (bw : i64b ww) :
    Calls Try.prog 4 #[.int .i64 ww, .int .i64 pad, .slice A n c] w fun e w' => e = .returned (.bool true) ∧ Below w.heap.size w w' := by
  have hnl := hI.len
  by_cases hn : 80 < n
  · have d1 : decide ((80 : Int) < (n : Int)) = true := decide_eq_true (by omega)
    go_enter Try.func4, Try.ntmps4
    go_wp2_with fail
    go_ret
    exact ⟨rfl, Below.refl _ _⟩
  have d1 : decide ((80 : Int) < (n : Int)) = false := decide_eq_false (by omega)
  have hl := Lib.hid hI.length
  rcases spreadF_cases ww pad v with ⟨hf, hno⟩ | ⟨q, rfl, hf, hlo, hpo⟩
  · have HF := Lib.hid (spread_as A n c v ww pad w hI (by omega) bw hf)
    clear hf hno
    go_enter Try.func4, Try.ntmps4
    go_wp2_with fail
    refine HF.out.mono ?_
    clear HF
    intro e w1 e1
    obtain ⟨A1, c1, rfl, _, hb1⟩ := e1
    simp only [List.length_nil]
    go_wp2_with fail
    refine (rows_any _).mono ?_
    rintro e w4 ⟨rfl, hb4⟩
    go_wp2_with fail
    go_ret
    exact ⟨rfl, hb1.trans (hb4.mono hb1.size)⟩
  · have PI := pict_of hlo
    obtain ⟨hp0, hp1⟩ := padOk_iff.1 hpo
    have q1 := (levelOk_iff.1 hlo).1
    have q2 := (levelOk_iff.1 hlo).2.1
    have hok0 : openOk q 0 v = true := by
      unfold openOk
      rw [hlo, padOk_iff.2 ⟨Int.le_refl 0, by omega⟩]; rfl
    have hf0 := spreadF_yes hok0
    rw [spread_zero PI] at hf0
    have HF := Lib.hid (spread_as A n c v q pad w hI (by omega) bw hf)
    rw [spreadS_len, hl.out] at HF
    have HF0 : Hid (∀ W, Below w.heap.size w W → Calls Try.prog 11 #[.int .i64 q, .int .i64 0, .slice A n c] W (ListRes W 3 1 n (cellsI v) 0)) := Lib.hid fun W hW => by
      have := spread_as A n c v q 0 W ((hI.below hW (Nat.le_refl _)).more hW.size) (by omega) bw hf0
      rwa [hl.out] at this
    have HP := Lib.hid (spreadS_i64 PI hp0 hp1)
    clear hf hf0 hok0 hlo hpo
    have hnn : ((n : Int) != (n : Int)) = false := by simp
    have hnn' : (n != n) = false := by simp
    have dq : decide ((q : Int) < 1) = false := decide_eq_false (by omega)
    have dqn : decide (q < 1) = false := decide_eq_false (by omega)
    go_enter Try.func4, Try.ntmps4
    go_wp2_with fail
    refine HF.out.mono ?_
    clear HF
    intro e w1 e1
    obtain ⟨A1, c1, rfl, hown1, hb1⟩ := e1
    have hI1 := Ints.of_own hown1 (fun x hx => by have := HP.out x hx; omega) (by omega)
    clear hown1
    go_wp2_with fail
    refine (HF0.out _ hb1).mono ?_
    clear HF0
    intro e w2 e2
    obtain ⟨A2, c2, rfl, hown2, hb2⟩ := e2
    have hI2 := Ints.of_own hown2 hI.i64 (by omega)
    have hb12 : Below w.heap.size w w2 := hb1.trans (hb2.mono hb1.size)
    have hIp2 := (hI1.below hb2 (Nat.le_refl _)).more hb2.size
    have hIv2 := (hI.below hb12 (Nat.le_refl _)).more hb12.size
    have HS := Lib.hid (same_b _ _ A2 A n c2 n c v v w2 hI2 hIv2)
    rw [show sameL v v = true from decide_eq_true rfl] at HS
    clear hown2 hb1 hb2 hI1 hI2
    go_wp2_with fail
    refine HS.out.mono ?_
    clear HS
    rintro e w3 ⟨rfl, hb3⟩
    have hb13 : Below w.heap.size w w3 := hb12.trans (hb3.mono hb12.size)
    have hIp := Lib.hid ((hIp2.below hb3 (Nat.le_refl _)).more hb3.size)
    have hIv := Lib.hid ((hIv2.below hb3 (Nat.le_refl _)).more hb3.size)
    clear hb12 hb3 hIp2 hIv2
    go_wp2_with fail
    refine wp_loop_mix [(11, 14), (58, 155)] (fun f wr => ∃ i : Nat, i ≤ n ∧ f 11 = .int .i64 i ∧ Below w3.heap.size w3 wr) (fun f _ => n - (intOf (f 11)).toNat) ⟨0, by omega, rfl, Below.refl _ _⟩ ?_
    rintro f wr ⟨i, hi, h11, hbr⟩ K hK
    simp (config := { decide := true }) only [mix_in, mix_out, mix_nil, Nat.reduceAdd]
    rw [h11] at hK ⊢
    clear h11
    by_cases hlt : i < n
    · obtain ⟨ad, x, rfl, hb, hx, hm, hc, hlo, hhi⟩ := (hIv.out.below hbr (Nat.le_refl _)).get hlt
      obtain ⟨ad', y, rfl, hb', hy, hm', hc', hlo', hhi'⟩ := (hIp.out.below hbr (Nat.le_refl _)).get hlt
      have hil : i < v.length := by rw [hl.out]; exact hlt
      rw [spreadS_get hil] at hy
      have hy := Option.some.inj hy
      have hxv : x = v.getD i (-1) := by rw [List.getD_eq_getElem?_getD, hx]; rfl
      have gy := spreadAt_grey PI hp0 hp1 hil
      rw [hy] at gy
      obtain ⟨gy1, gy2⟩ := gy
      have hkeep : 0 ≤ x → y = x := fun h0 => by rw [← hy, hxv]; exact spread_keeps PI hp0 hp1 hil (by rw [← hxv]; exact h0)
      have HNB0 : Hid (nearB q v pad i 0 = false) := Lib.hid rfl
      have HNBN : Hid (0 ≤ y → nearB q v pad i n = true) := Lib.hid fun h0 => by
        rw [← hl.out]; exact fills_near PI hp0 hp1 hil (by rw [hy]; exact h0)
      have HNS : Hid (∀ k, nearB q v pad i (k + 1) = (nearB q v pad i k || (thereB q v pad i k && (v.getD k (-1) == y)))) := Lib.hid fun k => by rw [nearB_succ, hy]
      have HTH : Hid (∀ k, k < n → thereB q v pad i k = true → 0 ≤ y) := Lib.hid fun k hk ht => by
        rw [← hy]; exact there_fills PI hp0 hp1 hil (by rw [hl.out]; exact hk) ht
      have i0 : (0 : Int) ≤ (i : Int) := by omega
      have i1 : (i : Int) < (n : Int) := by omega
      have t0 : decide ((i : Int) < (n : Int)) = true := decide_eq_true i1
      have t2 : decide (y < -1) = false := decide_eq_false (by omega)
      have t3 : decide (255 < y) = false := decide_eq_false (by omega)
      have hcase : (decide (0 ≤ x) = true ∧ (y != x) = false) ∨ decide (0 ≤ x) = false := by
        by_cases h0 : 0 ≤ x
        · exact .inl ⟨decide_eq_true h0, by rw [hkeep h0]; simp⟩
        · exact .inr (decide_eq_false h0)
      clear hx hm hy hm' hxv hkeep
      rcases hcase with ⟨t1, t1'⟩ | t1
      all_goals
        go_wp2_with fail
        try simp only [List.append]
        refine wp_region_quiet_lit (by kernel_rfl) (lexB_of_fast (by kernel_rfl)) ?_
        repeat (first | go_big_quiet_step (fail) | quiet_step (fail))
        refine wpQuiet_nil ?_
        intro _ hw'
        obtain ⟨nq, hw''⟩ := hw'
        subst hw''
        go_wp2_with fail
        refine wp_loop_mix [(12, 14), (94, 146)] (fun f wr' => ∃ k : Nat, k ≤ n ∧ f 13 = .int .i64 k ∧ f 12 = .bool (nearB q v pad i k) ∧ Below w3.heap.size w3 wr') (fun f _ => n - (intOf (f 13)).toNat) ⟨0, by omega, rfl, (by rw [HNB0.out]; rfl), ⟨hbr.os, hbr.tape, hbr.output, hbr.size, hbr.block⟩⟩ ?_
        rintro f' wr' ⟨k, hk, h13, h12, hbr'⟩ K' hK'
        simp (config := { decide := true }) only [mix_in, mix_out, mix_nil, Nat.reduceAdd]
        rw [h13] at hK' ⊢
        rw [h12]
        clear h13 h12
        by_cases hltk : k < n
        · obtain ⟨adk, z, hadk, hbk', hz, hmz, c0, hlz, hhz⟩ := (hIv.out.below hbr' (Nat.le_refl _)).get hltk
          obtain rfl : ad = adk := by simpa using hadk
          have e0 : w3.cell? (ad'.add i) = some (.int .i64 y) := by
            rw [← hbr.cell (by rw [addr_block]; exact hb')]; exact hc'
          have hzv : z = v.getD k (-1) := by rw [List.getD_eq_getElem?_getD, hz]; rfl
          clear hadk hz hmz
          have k0 : (0 : Int) ≤ (k : Int) := by omega
          have k1 : (k : Int) < (n : Int) := by omega
          have tk : decide ((k : Int) < (n : Int)) = true := decide_eq_true k1
          have hkl : k < v.length := by rw [hl.out]; exact hltk
          obtain ⟨r1, r2, r3, r4⟩ := PI.tx_range hil
          obtain ⟨s1, s2, s3, s4⟩ := PI.tx_range hkl
          have hh2 := PI.h2
          have hF : Hid (∀ W, Calls Try.prog 17 #[ptV (tx q i), ptV (tx q k)] W fun e w' => e = .returned (.int .i64 (farS (tx q i) (tx q k))) ∧ Below W.heap.size W w') := Lib.hid fun W => far_any (tx q i) (tx q k) W ⟨⟨by omega, by omega⟩, ⟨by omega, by omega⟩⟩ ⟨⟨by omega, by omega⟩, ⟨by omega, by omega⟩⟩
          have hthr : thereB q v pad i k = (decide (farS (tx q i) (tx q k) ≤ pad) && decide (0 ≤ z)) := by rw [hzv]; rfl
          have hTHk := HTH.out k hltk
          have hNSk := HNS.out k
          rw [← hzv, hthr] at hNSk
          rw [hthr] at hTHk
          obtain ⟨F, hFe⟩ : ∃ F, F = farS (tx q i) (tx q k) := ⟨_, rfl⟩
          rw [← hFe] at hF hTHk hNSk
          unfold ptV tx at hF
          simp only [Int.natCast_emod, Int.natCast_ediv] at hF
          have HFAR := hF
          unfold tx at r1 r2 r3 r4 s1 s2 s3 s4
          simp only [Int.natCast_emod, Int.natCast_ediv] at r1 r2 r3 r4 s1 s2 s3 s4
          clear hF hFe hthr hzv
          have HTHk := Lib.hid hTHk; clear hTHk
          have HSU := Lib.hid hNSk; clear hNSk
          have kd1 : (k : Int) / q ≤ 256 := by omega
          have kd2 : (k : Int) % q ≤ 256 := by omega
          have id1 : (i : Int) / q ≤ 256 := by omega
          have id2 : (i : Int) % q ≤ 256 := by omega
          have hq0 : ¬ (q : Int) = 0 := by omega
          have hq0n : ¬ q = 0 := by omega
          have hq0b : ((q : Int) == 0) = false := by simpa using hq0n
          have td : (k : Int).tdiv q = (k : Int) / q := Int.tdiv_eq_ediv_of_nonneg k0
          have tm : (k : Int).tmod q = (k : Int) % q := Int.tmod_eq_emod_of_nonneg k0
          have wd : IntKind.i64.wrap ((k : Int) / q) = (k : Int) / q := IntWalk.i64_in _ (by omega)
          have wm : IntKind.i64.wrap ((k : Int) % q) = (k : Int) % q := IntWalk.i64_in _ (by omega)
          have td' : (i : Int).tdiv q = (i : Int) / q := Int.tdiv_eq_ediv_of_nonneg i0
          have tm' : (i : Int).tmod q = (i : Int) % q := Int.tmod_eq_emod_of_nonneg i0
          have wd' : IntKind.i64.wrap ((i : Int) / q) = (i : Int) / q := IntWalk.i64_in _ (by omega)
          have wm' : IntKind.i64.wrap ((i : Int) % q) = (i : Int) % q := IntWalk.i64_in _ (by omega)
          have hmeas : n - ((k : Int) + 1).toNat < n - (k : Int).toNat := by omega
          generalize nearB q v pad i k = b at HSU hK' ⊢
          cases g1 : decide (F ≤ pad)
          case false =>
            rw [g1] at HSU
            go_wp2_with fail
            first | (go_region_with ((go_at_call 17; refine (HFAR.out _).mono ?_; clear HFAR; rintro e wx ⟨rfl, hbx⟩; have hby : Below wr'.heap.size wr' wx := (Below.refl _ wr').drew.trans (hbx.mono (by simp))))) | fail
            all_goals
              have hbrx : Below w3.heap.size w3 wx := hbr'.trans (hby.mono hbr'.size)
              have c1 : wx.cell? (ad.add k) = some (.int .i64 z) := by rw [hby.cell (by rw [addr_block]; have := hbr'.size; omega)]; exact c0
              have c2 : wx.cell? (ad'.add i) = some (.int .i64 y) := by rw [hbrx.cell (by rw [addr_block]; exact hb')]; exact e0
              clear c0
              cases b
              all_goals
                go_wp2_with fail
                try simp only [List.append]
                refine wp_region_quiet_lit (by kernel_rfl) (lexB_of_fast (by kernel_rfl)) ?_
                repeat (first | go_big_quiet_step (fail) | quiet_step (fail))
                refine wpQuiet_nil ?_
                intro _ hw'
                obtain ⟨nq, hw''⟩ := hw'
                subst hw''
                go_wp2_with fail
                exact MixEnd.intro (by kernel_rfl) ⟨k + 1, by omega, (by show Value.int .i64 ((k : Int) + 1) = _; go_num), (by rw [HSU.out]; rfl), below_drewN hbrx _⟩ hmeas
          cases g2 : decide (0 ≤ z)
          case false =>
            rw [g1, g2] at HSU
            go_wp2_with fail
            go_region_held3 (fun w' => w'.cell? (ad.add k) = some (.int .i64 z)) (first | with_reducible assumption | (rw [hby.cell (by rw [addr_block]; have := hbr'.size; omega)]; with_reducible assumption) | (go_keep; done))
              ((go_at_call 17; refine (HFAR.out _).mono ?_; clear HFAR; rintro e wx ⟨rfl, hbx⟩; have hby : Below wr'.heap.size wr' wx := (Below.refl _ wr').drew.trans (hbx.mono (by simp))))
            have hbrx : Below w3.heap.size w3 wx := hbr'.trans (hby.mono hbr'.size)
            have c1 : wx.cell? (ad.add k) = some (.int .i64 z) := by rw [hby.cell (by rw [addr_block]; have := hbr'.size; omega)]; exact c0
            have c2 : wx.cell? (ad'.add i) = some (.int .i64 y) := by rw [hbrx.cell (by rw [addr_block]; exact hb')]; exact e0
            clear c0
            cases b
            all_goals
              go_wp2_with fail
              try simp only [List.append]
              refine wp_region_quiet_lit (by kernel_rfl) (lexB_of_fast (by kernel_rfl)) ?_
              repeat (first | go_big_quiet_step (fail) | quiet_step (fail))
              refine wpQuiet_nil ?_
              intro _ hw'
              obtain ⟨nq, hw''⟩ := hw'
              subst hw''
              go_wp2_with fail
              exact MixEnd.intro (by kernel_rfl) ⟨k + 1, by omega, (by show Value.int .i64 ((k : Int) + 1) = _; go_num), (by rw [HSU.out]; rfl), below_drewN hbrx _⟩ hmeas
          have hy0 : 0 ≤ y := HTHk.out (by rw [g1, g2]; rfl)
          have ty0 : decide (y < 0) = false := decide_eq_false (by omega)
          rw [g1, g2] at HSU
          go_wp2_with fail
          go_region_held3 (fun w' => w'.cell? (ad.add k) = some (.int .i64 z)) (first | with_reducible assumption | (rw [hby.cell (by rw [addr_block]; have := hbr'.size; omega)]; with_reducible assumption) | (go_keep; done))
            ((go_at_call 17; refine (HFAR.out _).mono ?_; clear HFAR; rintro e wx ⟨rfl, hbx⟩; have hby : Below wr'.heap.size wr' wx := (Below.refl _ wr').drew.trans (hbx.mono (by simp))))
          cases g3 : (z == y)
          all_goals
            rw [g3] at HSU
            have hbrx : Below w3.heap.size w3 wx := hbr'.trans (hby.mono hbr'.size)
            have c1 : wx.cell? (ad.add k) = some (.int .i64 z) := by rw [hby.cell (by rw [addr_block]; have := hbr'.size; omega)]; exact c0
            have c2 : wx.cell? (ad'.add i) = some (.int .i64 y) := by rw [hbrx.cell (by rw [addr_block]; exact hb')]; exact e0
            clear c0
            cases b
            all_goals
              go_wp2_with fail
              try simp only [List.append]
              refine wp_region_quiet_lit (by kernel_rfl) (lexB_of_fast (by kernel_rfl)) ?_
              repeat (first | go_big_quiet_step (fail) | quiet_step (fail))
              refine wpQuiet_nil ?_
              intro _ hw'
              obtain ⟨nq, hw''⟩ := hw'
              subst hw''
              go_wp2_with fail
              exact MixEnd.intro (by kernel_rfl) ⟨k + 1, by omega, (by show Value.int .i64 ((k : Int) + 1) = _; go_num), (by rw [HSU.out]; rfl), below_drewN hbrx _⟩ hmeas
        · obtain rfl : k = n := by omega
          have tk : decide (k < k) = false := by simp
          have tk' : decide ((k : Int) < (k : Int)) = false := by simp
          have c2 : wr'.cell? (ad'.add i) = some (.int .i64 y) := by
            rw [hbr'.cell (by rw [addr_block]; exact hb'), ← hbr.cell (by rw [addr_block]; exact hb')]; exact hc'
          have hmeas : k - ((i : Int) + 1).toNat < k - (i : Int).toNat := by omega
          have HBR : Hid (Below w3.heap.size w3 wr') := Lib.hid hbr'
          by_cases hy0 : 0 ≤ y
          · have ty0 : decide (0 ≤ y) = true := decide_eq_true hy0
            rw [HNBN.out hy0]
            go_wp2_with fail
            exact MixEnd.intro (by kernel_rfl) ⟨i + 1, by omega, (by show Value.int .i64 ((i : Int) + 1) = _; go_num), HBR.out⟩ hmeas
          · have ty0 : decide (0 ≤ y) = false := decide_eq_false hy0
            generalize nearB q v pad i k = b
            go_wp2_with fail
            exact MixEnd.intro (by kernel_rfl) ⟨i + 1, by omega, (by show Value.int .i64 ((i : Int) + 1) = _; go_num), HBR.out⟩ hmeas
    · have t0 : decide ((i : Int) < (n : Int)) = false := decide_eq_false (by omega)
      go_wp2_with fail
      refine (rows_any _).mono ?_
      rintro e w4 ⟨rfl, hb4⟩
      go_wp2_with fail
      go_ret
      exact ⟨rfl, hb13.trans ((hbr.trans (hb4.mono hbr.size)).mono hb13.size)⟩
end Go.Proofs.Ytmkmmkpigpbkiaa
