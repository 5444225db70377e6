/-
  THE WALK OF limewashref07's Face.
-/
import Derived.Test.YtkdffcoofijhkaaDoorFaceRfC
import Derived.Test.YtkdffcoofijhkaaDoorFaceRfE
import Derived.Test.YtkdffcoofijhkaaDoorFaceWalkH
set_option linter.unusedVariables false
set_option linter.unusedSimpArgs false
set_option maxRecDepth 8000
namespace Go.Proofs.YtkdffcoofijhkaaDoor
open Go.RowKit

theorem alike_bad {cs : List P3} {k : Nat} {x : P3} (hk : cs[k]? = some x) (h : likeC (cs.headD ⟨0, 0, 0⟩) x = false) : alikeC cs = false := by
  unfold alikeC
  rw [List.all_eq_false]
  exact ⟨x, List.mem_of_getElem? hk, by rw [h]; simp⟩
theorem alike_take {cs : List P3} {k : Nat} {x y : P3} (hk : cs[k]? = some x) (h0 : cs[0]? = some y) (ha : alikeC (cs.take k) = true) (h : likeC y x = true) : alikeC (cs.take (k + 1)) = true := by
  rw [take_snoc' _ _ _ hk, alike_snoc, ha, ← take_snoc' _ _ _ hk]
  cases cs with
  | nil => simp at h0
  | cons a r =>
    simp only [List.getElem?_cons_zero, Option.some.injEq] at h0
    subst h0
    simp only [List.take_succ_cons, List.headD_cons, h]; rfl

set_option maxHeartbeats 12800000 in
theorem faceref_any (B : Nat) (A : Option Addr) (n c : Nat) (m : P3) (ls : List (List UInt8)) (w : World) (h : Strs w B A n ls) (hB : B ≤ w.heap.size) (hn2 : n ≤ 1000) (hl : ∀ l ∈ ls, l.length ≤ 100000) (hm : m.bd) :
    Calls Tryd.prog 34 #[.int .i64 m.a, .int .i64 m.b, .int .i64 m.c, .slice A n c] w (FaceRes (faceR m ls) w) := by
  obtain ⟨i0, hi0, hz0, hz1, hz2⟩ := info_parts size_cor
  have hlen := Lib.hid h.length
  have H := Lib.hid h; clear h
  have HL := Lib.hid hl; clear hl
  have HRD := Lib.hid (fun l W (h1 : l.length ≤ 100000) => cornerref_any l m W h1 hm)
  obtain ⟨R, hR⟩ : ∃ R, R = faceR m ls := ⟨_, rfl⟩
  have e0 := hR
  unfold faceR at e0
  rw [← hR]
  clear hR
  by_cases h3 : n < 3
  · rw [if_pos (by rw [hlen.out]; exact h3)] at e0
    subst e0
    clear H HL HRD
    obtain ⟨m0, m1, m2⟩ := m
    simp only
    have t0 : decide ((n : Int) < 3) = true := decide_eq_true (by omega)
    go_enter Tryd.func34, Tryd.ntmps34
    go_wp2_with fail
    go_ret2
    exact FaceRes.bad (Below.refl _ _)
  rw [if_neg (by rw [hlen.out]; exact h3)] at e0
  have HR := Lib.hid e0; clear e0
  obtain ⟨f, hf⟩ : ∃ f : List UInt8 → P3 × Int, f = fun l => cornerR l m := ⟨_, rfl⟩
  have HF := Lib.hid hf; clear hf hm
  obtain ⟨m0, m1, m2⟩ := m
  simp only
  have t0 : decide ((n : Int) < 3) = false := decide_eq_false (by omega)
  go_enter Tryd.func34, Tryd.ntmps34
  go_wp2_with fail
  go_loopw [10, 11] (fun v i wr => ∃ (k : Nat) (cs : List P3), k ≤ n ∧ i = .int .i64 k ∧ wr.ownsRow w.heap.size 26 3 v k (cellsC cs) ∧ Hid (cs = (ls.take k).map fun l => (f l).1) ∧ Hid (∀ l ∈ ls.take k, (f l).2 = 0) ∧ Hid (Below w.heap.size w wr)) (fun _ i _ => n - (intOf i).toNat)
  case atStart => exact ⟨0, [], by omega, rfl, World.ownsRow_nil _ _ _ _, Lib.hid rfl, Lib.hid (by simp), Lib.hid (Below.refl _ _)⟩
  case round =>
    obtain ⟨k, cs, hk, rfl, hown, hcs, hall, HB⟩ := hrel
    by_cases hlt : k < n
    · have t1 : decide ((k : Int) < (n : Int)) = true := decide_eq_true (by omega)
      obtain ⟨ad, l, rfl, hbk, hx, hmx, hc⟩ := (H.out.below HB.out hB).get hlt
      have HX := Lib.hid hx
      have hll := HL.out l hmx
      obtain ⟨⟨x0, x1, x2⟩, er, hfl⟩ : ∃ x e, f l = (x, e) := ⟨_, _, rfl⟩
      have hfl2 : cornerR l ⟨m0, m1, m2⟩ = (⟨x0, x1, x2⟩, er) := by have := HF.out; rw [this] at hfl; exact hfl
      have K := Lib.hid (fun W => HRD.out l W hll)
      rw [hfl2] at K
      have HFL := Lib.hid hfl
      unfold CornerRes p3V at K
      simp only at K
      clear hx hmx hfl hfl2 hll
      have HC := Lib.hid hc
      have hc1 := hc
      try rw [addr_off _ (by omega)] at hc1
      go_wp2_with fail
      refine (K.out _).mono ?_
      clear K hc hc1
      rintro e w1 ⟨rfl, hb1⟩
      have HB1 := Lib.hid (HB.out.trans (hb1.mono HB.out.size))
      have hown1 := own_below hown hb1 (Nat.le_refl _)
      have hy1 := hb1.size
      have hyw := HB.out.size
      have hlo : ∀ j, u10.ownBlock = some j → w.heap.size ≤ j ∧ j < wr.heap.size := fun j hj => hown.lt j hj
      clear hb1 hown
      by_cases he : er = 0
      · subst he
        go_wp2_with (at_builtin; refine wpList_append_lies _ rfl (.tmp 38) (.tmp 40) _ rfl w.heap.size 26 i0 _ 3 24 Tryd.underlying22 hi0 hz0 hz1 hz2 rfl (by decide) _ k (cellsC cs) rfl ((hown1.alloc _).alloc _) ⟨w1.heap.size + 1, 0, none⟩ 1 1 [.int .i64 x0, .int .i64 x1, .int .i64 x2] rfl rfl (World.news_of_block (by have := heap_alloc_new (w1.alloc (.cells #[.int .i64 x0, .int .i64 x1, .int .i64 x2] 26)) (.cells #[.int .i64 x0, .int .i64 x1, .int .i64 x2] 26); rw [World.size_alloc] at this; exact this)) (by simp [Value.oneCell']) (by decide) (by unfold maxLen; omega) (by omega) (by simp; omega) _ rfl ?_; intro g4 cap4 w4 hown4 hgr4 hat4 hlt4)
        have hown5 : w4.ownsRow w.heap.size 26 3 (.slice (some ⟨g4, 0, none⟩) (k + 1) cap4) (k + 1) (cellsC (cs ++ [⟨x0, x1, x2⟩])) := by
          have : cellsC (cs ++ [⟨x0, x1, x2⟩]) = cellsC cs ++ [.int .i64 x0, .int .i64 x1, .int .i64 x2] := by simp [cellsC, cells3]
          rw [this]; exact hown4
        have hcs2 : Hid (cs ++ [⟨x0, x1, x2⟩] = (ls.take (k + 1)).map fun l => (f l).1) := Lib.hid (by rw [take_snoc' _ _ _ HX.out, hcs.out]; simp [HFL.out])
        have hall2 : Hid (∀ l ∈ ls.take (k + 1), (f l).2 = 0) := Lib.hid (by
          rw [take_snoc' _ _ _ HX.out]
          intro x hx
          rcases List.mem_append.1 hx with hx | hx
          · exact hall.out x hx
          · obtain rfl := List.mem_singleton.1 hx; rw [HFL.out])
        have hb4 : Below w.heap.size w1 w4 := (((Below.refl _ w1).alloc (by omega) _).alloc (by simp; omega) _).grown hgr4 (by simp; omega) (fun j hj => (hlo j hj).1)
        have HB4 := Lib.hid (HB1.out.trans hb4)
        have HOW := Lib.hid hown5
        clear hown4 hown5 hgr4 hat4 hlt4 hown1 hcs hall hb4
        go_wp2_with fail
        go_roundw
        case rel => exact ⟨k + 1, cs ++ [⟨x0, x1, x2⟩], by omega, by go_num, HOW.out, hcs2, hall2, HB4⟩
        case measure => simp only [intOf]; omega
      · have herr : Hid (R = ([], er)) := Lib.hid (by
          have hf := HF.out
          have hc : corsR ⟨m0, m1, m2⟩ ls = ([], er) := by
            rw [split_at ls k l HX.out, corsR_err ⟨m0, m1, m2⟩ _ _ _ (by have := hall.out; rw [hf] at this; exact this) (by have := HFL.out; rw [hf] at this; simp only at this; rw [this]; exact he)]
            have := HFL.out; rw [hf] at this; simp only at this; rw [this]
          rw [HR.out, hc, if_pos he])
        have db : (er != 0) = true := by simpa using he
        clear he
        go_wp2_with fail
        go_ret2
        rw [herr.out]
        exact FaceRes.bad (HB1.out.alloc (by omega) _)
    · have t1 : decide ((k : Int) < (n : Int)) = false := decide_eq_false (by omega)
      obtain rfl : n = k := by omega
      obtain ⟨A', c', rfl⟩ := own_shape hown
      have htk : ls.take n = ls := List.take_of_length_le (by rw [hlen.out]; exact Nat.le_refl _)
      have hRR : Hid (R = if alikeC cs then (fanS cs, 0) else ([], 6)) := Lib.hid (by
        have h1 := hall.out
        have h2 := hcs.out
        have hf := HF.out
        rw [htk, hf] at h1 h2
        have := corsR_ok ⟨m0, m1, m2⟩ ls h1
        rw [HR.out, this, ← h2]
        rfl)
      have hcl : cs.length = n := by have := hown.1; rw [cellsC_length] at this; omega
      have HC : Hid (Cors wr wr.heap.size A' n cs) := Lib.hid ⟨Rd.of_own hown, by omega⟩
      clear hown hcs hall htk
      go_wp2_with fail
      go_loopw [14] (fun i wq => ∃ k : Nat, k ≤ n ∧ i = .int .i64 (k : Int) ∧ Hid (alikeC (cs.take k) = true) ∧ ∃ q, wq = wr.drewN q) (fun i _ => n - (intOf i).toNat)
      case atStart => exact ⟨0, Nat.zero_le _, rfl, Lib.hid rfl, 0, rfl⟩
      case round =>
        obtain ⟨k, hk2, rfl, hal, q, rfl⟩ := hrel
        by_cases hlt2 : k < n
        · have t2 : decide ((k : Int) < (n : Int)) = true := decide_eq_true (by omega)
          obtain ⟨ad, y, rfl, hbk, hx0, _, p0, p1, p2⟩ := HC.out.get (k := 0) (by omega)
          obtain ⟨ad1, x, e1, _, hx1, _, q0, q1, q2⟩ := HC.out.get (k := k) hlt2
          obtain rfl : ad = ad1 := by injection e1
          obtain ⟨y0, y1, y2⟩ := y
          obtain ⟨x0, x1, x2⟩ := x
          simp only at p0 p1 p2 q0 q1 q2
          rw [Nat.zero_mul] at p0 p1 p2
          have z0 : ad.add 0 = ad := rfl
          rw [z0] at p0 p1 p2
          have hhd : Hid (cs.headD ⟨0, 0, 0⟩ = ⟨y0, y1, y2⟩) := Lib.hid (by
            cases cs with
            | nil => simp at hx0
            | cons a r => simpa using hx0)
          have hgo : Hid (likeC ⟨y0, y1, y2⟩ ⟨x0, x1, x2⟩ = true → alikeC (cs.take (k + 1)) = true) := Lib.hid fun h => alike_take hx1 hx0 hal.out h
          have hst : Hid (likeC ⟨y0, y1, y2⟩ ⟨x0, x1, x2⟩ = false → R = ([], 6)) := Lib.hid fun h => by
            rw [hRR.out, if_neg (by rw [alike_bad hx1 (by rw [hhd.out]; exact h)]; simp)]
          have hk0 : (0 : Int) ≤ (k : Int) := by omega
          have hkn : (k : Int) < (n : Int) := by omega
          have hn0 : 0 < n := by omega
          have hn1 : (0 : Int) < (n : Int) := by omega
          have wk : IntKind.i64.wrap ((k : Int) + 1) = (k : Int) + 1 := by rw [IntKind.wrap_i64]; omega
          have hBR := Lib.hid (below_drewN HB.out q)
          clear hx0 hx1 e1 hhd z0
          go_wp2_with fail
          cases r1 : decide (x1 < 0) <;> cases s1 : decide (y1 < 0)
          all_goals
            cases r2 : decide (x2 < 0) <;> cases s2 : decide (y2 < 0)
            all_goals
              go_quiet (fail)
              go_wp2_with fail
              first
                | (go_roundw
                   case rel => exact ⟨k + 1, by omega, by go_num, Lib.hid (hgo.out (by unfold likeC; simp only [*]; rfl)), _, rfl⟩
                   case measure => simp only [intOf]; omega)
                | (go_ret2
                   rw [hst.out (by unfold likeC; simp only [*]; rfl)]
                   exact FaceRes.bad (below_drewN (below_drewN HB.out _) _))
        · have t2 : decide ((k : Int) < (n : Int)) = false := decide_eq_false (by omega)
          have hfan : Hid (R = (fanS cs, 0)) := Lib.hid (by
            have h1 := hal.out
            rw [List.take_of_length_le (by omega)] at h1
            rw [hRR.out, if_pos h1])
          have K := Lib.hid (fanref_any wr.heap.size A' n c' cs (wr.drewN q) (HC.out.below (below_drewN (Below.refl _ _) q) (Nat.le_refl _)) (Nat.le_refl _) (by omega))
          unfold FanRes at K
          go_wp2_with fail
          refine K.out.mono ?_
          clear K
          rintro e w1 ⟨A2, c2, rfl, hown, hb1⟩
          have HB1 := Lib.hid ((below_drewN HB.out q).trans (hb1.mono HB.out.size))
          have HOWN := Lib.hid hown
          clear hown hb1
          go_wp2_with fail
          go_ret2
          rw [hfan.out]
          exact ⟨A2, c2, rfl, own_mono HOWN.out HB.out.size, HB1.out⟩
end Go.Proofs.YtkdffcoofijhkaaDoor
