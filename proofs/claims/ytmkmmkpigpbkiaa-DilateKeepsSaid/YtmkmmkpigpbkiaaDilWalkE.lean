/-
  THE WALKS OF near's closure, ring, and the iterator that ring hands back.
-/
import Derived.Test.YtmkmmkpigpbkiaaDilWalkD
import Derived.Test.YtmkmmkpigpbkiaaDilRing
import Derived.RangeFuncNested
import Derived.RangeFuncBound
import Derived.RangeFuncCalls
import Derived.RangeFuncLeaves
import Derived.Shelf.Abstract
import Derived.Shelf.RegionOpen
import Derived.OwnWalkIn
import Derived.TacticsInMore
import Derived.LoopNIn
import Derived.LoopIn
import Derived.Sort.LoopGhostIn
set_option linter.unusedVariables false
set_option linter.unusedSimpArgs false
namespace Go.Proofs.Ytmkmmkpigpbkiaa
open Go.RowKit Go.Shelf

/-- the picture's variable, its values below B -/
structure PicAt (W : World) (B b : Nat) (q : Nat) (h : Int) (A : Option Addr) (n c : Nat) (v : List Int) : Prop where
  s0 : W.cell? ⟨b, 0, none⟩ = some (.int .i64 q)
  s1 : W.cell? ⟨b, 1, none⟩ = some (.int .i64 h)
  s2 : W.cell? ⟨b, 2, none⟩ = some (.slice A n c)
  i : Ints W B A n v
theorem PicAt.below {W W' : World} {B b q n c D : Nat} {h : Int} {A : Option Addr} {v : List Int} (p : PicAt W B b q h A n c v) (hb : Below D W W') (hB : B ≤ D) (hbD : b < D) : PicAt W' B b q h A n c v :=
  ⟨by rw [hb.cell (by simpa using hbD)]; exact p.s0, by rw [hb.cell (by simpa using hbD)]; exact p.s1, by rw [hb.cell (by simpa using hbD)]; exact p.s2, p.i.below hb hB⟩

theorem has_any (B b q n c : Nat) (h : Int) (A : Option Addr) (v : List Int) (t : Pt) (w : World) (p : PicAt w B b q h A n c v) (P : Pict q v h) (hb : b < w.heap.size) (hB : B ≤ w.heap.size) (h1 : 0 ≤ t.x) (h2 : t.x < q) (h3 : 0 ≤ t.y) (h4 : t.y < h) :
    Calls Try.prog 26 #[ptV t, .pointer (some ⟨b, 0, none⟩)] w fun e w' => e = .returned (.bool (hasS q v t)) ∧ w' = w.alloc (.cells #[.int .i64 t.x, .int .i64 t.y] 24) := by
  have hk := P.key_lt h1 h2 h3 h4
  rw [p.i.length] at hk
  obtain ⟨ad, x, rfl, hbk, hx, hm, hc, hlo, hhi⟩ := p.i.get hk
  have e0 : hasS q v t = (x != -1) := by
    unfold hasS
    rw [show (t.y * q + t.x).toNat = keyS q t from rfl, List.getD_eq_getElem?_getD, hx]
    simp only [Option.getD_some]
    by_cases h9 : x = -1 <;> simp [h9]
  have E0 := Lib.hid e0
  obtain ⟨q0, q1, q2, q3⟩ := p
  have hl := P.len
  have h6 := P.w2
  have h7 := P.h2
  have hw0 : 0 ≤ t.y * q := Int.mul_nonneg h3 (by omega)
  have hw1 : t.y * q ≤ 65536 := by
    have a1 : t.y * q ≤ 256 * q := Int.mul_le_mul_of_nonneg_right (by omega) (by omega)
    omega
  have hbx : ∀ o, (w.alloc o).cell? (ad.add (keyS q t)) = some (.int .i64 x) := fun o => by rw [World.cell?_alloc_lt _ _ _ (by rw [addr_block]; omega)]; exact hc
  unfold keyS at hbx hk
  have r0 : ∀ o, (w.alloc o).cell? ⟨b, 0, none⟩ = some (.int .i64 q) := fun o => by rw [World.cell?_alloc_lt _ _ _ (by simpa using hb)]; exact q0
  have r2 : ∀ o, (w.alloc o).cell? ⟨b, 2, none⟩ = some (.slice (some ad) n c) := fun o => by rw [World.cell?_alloc_lt _ _ _ (by simpa using hb)]; exact q2
  have i0 : 0 ≤ t.y * q + t.x := by omega
  have i1 : t.y * q + t.x < n := by omega
  clear hm hx hc e0 q0 q1 q2 q3 P hl
  obtain ⟨a, d⟩ := t
  unfold ptV
  simp only at *
  go_enter Try.func26, Try.ntmps26
  go_wp2_with fail
  go_ret
  exact ⟨ret_bool E0.out.symm, rfl⟩

/-- ring's four variables -/
theorem ring_any (q n c : Nat) (h x y far : Int) (A : Option Addr) (w : World) :
    Calls Try.prog 27 #[picV q h A n c, .int .i64 x, .int .i64 y, .int .i64 far] w fun e w' =>
      e = .returned (.func (.func 35) #[] #[.pointer (some ⟨w.heap.size + 1 + 1, 0, none⟩), .pointer (some ⟨w.heap.size + 1 + 1 + 1, 0, none⟩), .pointer (some ⟨w.heap.size, 0, none⟩), .pointer (some ⟨w.heap.size + 1, 0, none⟩)]) ∧
      w' = (((w.alloc (.cells #[.int .i64 q, .int .i64 h, .slice A n c] 41)).alloc (.cells #[.int .i64 x] 3)).alloc (.cells #[.int .i64 y] 3)).alloc (.cells #[.int .i64 far] 3) := by
  unfold picV
  go_enter Try.func27, Try.ntmps27
  go_wp2_with fail
  go_ret
  exact ⟨rfl, rfl⟩

attribute [local go_sem] Oper.semAt_some

/-- a texel of the picture -/
abbrev TxI (q : Nat) (h : Int) := { t : Pt // 0 ≤ t.x ∧ t.x < q ∧ 0 ≤ t.y ∧ t.y < h }
def vals {q : Nat} {h : Int} (l : List (TxI q h)) : List Pt := l.map Subtype.val
theorem vals_snoc {q : Nat} {h : Int} (l : List (TxI q h)) (t : TxI q h) : vals (l ++ [t]) = vals l ++ [t.1] := by simp [vals]
theorem vals_len {q : Nat} {h : Int} (l : List (TxI q h)) : (vals l).length = l.length := by simp [vals]
/-- the iterator's variables -/
structure RingAt (W : World) (n₀ bp bx by' bf : Nat) (q n c : Nat) (h x y far : Int) (A : Option Addr) : Prop where
  p0 : W.cell? ⟨bp, 0, none⟩ = some (.int .i64 q)
  p1 : W.cell? ⟨bp, 1, none⟩ = some (.int .i64 h)
  cx : W.cell? ⟨bx, 0, none⟩ = some (.int .i64 x)
  cy : W.cell? ⟨by', 0, none⟩ = some (.int .i64 y)
  cf : W.cell? ⟨bf, 0, none⟩ = some (.int .i64 far)
  lp : bp < n₀
  lx : bx < n₀
  ly : by' < n₀
  lf : bf < n₀
theorem RingAt.below {W W' : World} {n₀ bp bx by' bf q n c : Nat} {h x y far : Int} {A : Option Addr} (r : RingAt W n₀ bp bx by' bf q n c h x y far A) (hb : Below n₀ W W') : RingAt W' n₀ bp bx by' bf q n c h x y far A :=
  ⟨by rw [hb.cell (by simpa using r.lp)]; exact r.p0, by rw [hb.cell (by simpa using r.lp)]; exact r.p1, by rw [hb.cell (by simpa using r.lx)]; exact r.cx, by rw [hb.cell (by simpa using r.ly)]; exact r.cy, by rw [hb.cell (by simpa using r.lf)]; exact r.cf, r.lp, r.lx, r.ly, r.lf⟩

set_option maxRecDepth 100000 in
set_option maxHeartbeats 6400000 in
theorem ring1_in (F : Fence) (m : Nat) (hF : F.fn 35) (hro : F.round = none) (hm : 1 ≤ m) (l n₀ bp bx by' bf q n c : Nat) (h x y far : Int) (A : Option Addr) (J Jx : List (TxI q h) → World → Prop)
    (hq : q ≤ 256) (hh : h ≤ 256) (hx0 : 0 ≤ x) (hx1 : x < q) (hy0 : 0 ≤ y) (hy1 : y < h) (hf0 : 0 ≤ far) (hf1 : far ≤ 8)
    (hY : ∀ pre t W, J pre W → pre.length < (ringL x y far q h).length → YieldAt F (m - 1) Try.prog l #[ptV t.1] W fun e W' =>
      (e = .returned (.bool true) ∧ J (pre ++ [t]) W' ∧ Below n₀ W W') ∨ (e = .returned (.bool false) ∧ Jx (pre ++ [t]) W'))
    (W : World) (hR : RingAt W n₀ bp bx by' bf q n c h x y far A) (h0 : J [] W) :
    CallsIn F m Try.prog 35 #[.func (.yield l) #[] #[], .pointer (some ⟨by', 0, none⟩), .pointer (some ⟨bf, 0, none⟩), .pointer (some ⟨bp, 0, none⟩), .pointer (some ⟨bx, 0, none⟩)] W fun e W' => (∃ v, e = .returned v) ∧
      ((∃ ys, vals ys = ringL x y far q h ∧ J ys W') ∨ (∃ pre, vals pre <+: ringL x y far q h ∧ Jx pre W')) := by
  have HY := Lib.hid hY; clear hY
  have HRG := Lib.hid hR
  obtain ⟨p0, p1, cx, cy, cf, lp, lx, ly, lf⟩ := hR
  obtain ⟨V0, hV0⟩ : ∃ V0, V0 = lowV y far := ⟨_, rfl⟩
  obtain ⟨T0, hT0⟩ : ∃ T0, T0 = min (y + far) (h - 1) := ⟨_, rfl⟩
  have e1 : (if y - far < 0 then 0 else y - far) = V0 := by rw [hV0]; unfold lowV; split <;> omega
  have e2 : (if h - 1 < y + far then h - 1 else y + far) = T0 := by rw [hT0]; split <;> omega
  have bV : 0 ≤ V0 ∧ V0 ≤ 256 ∧ y - far ≤ V0 := by rw [hV0]; unfold lowV; omega
  have bT : T0 ≤ y + far ∧ T0 ≤ h - 1 ∧ -1 ≤ T0 := by rw [hT0]; omega
  have hcn : cntV y far h = (T0 - V0 + 1).toNat := by rw [hT0, hV0]; rfl
  obtain ⟨bV1, bV2, bV3⟩ := bV
  obtain ⟨bT1, bT2, bT3⟩ := bT
  have HV0 := Lib.hid hV0; clear hV0
  have HT0 := Lib.hid hT0; clear hT0
  have HCN := Lib.hid hcn; clear hcn
  refine callsIn_of_wp Try.func35 rfl hF ?_ hro
  simp only [Try.ntmps35, List.size_toArray, List.length_cons, List.length_nil, Nat.reduceAdd, Nat.reduceSub, Array.replicate_succ, Array.replicate_zero, List.push_toArray, List.append_toArray, List.nil_append, List.cons_append]
  gi_wp2
  gi_loopw [6] (fun u wr => ∃ (j : Nat) (pre : List (TxI q h)), (j : Int) ≤ cntV y far h ∧ u = .int .i64 (V0 + j) ∧ Hid (vals pre = upTo x y far q j) ∧ Hid (J pre wr) ∧ Below n₀ W wr) (fun u _ => (h - intOf u).toNat)
  case atStart => exact ⟨0, [], by omega, by simp, Lib.hid rfl, Lib.hid h0, Below.refl _ _⟩
  case round =>
    obtain ⟨j, pre, hj, rfl, hpre, hJ, hbW⟩ := hrel
    clear p0 p1 cx cy cf
    obtain ⟨V, hV⟩ : ∃ V, V = V0 + (j : Int) := ⟨_, rfl⟩
    rw [← hV]
    have hVb : V0 ≤ V := by omega
    obtain ⟨p0, p1, cx, cy, cf, _, _, _, _⟩ := HRG.out.below hbW
    by_cases hlt : V ≤ T0
    · have t0 : decide (V ≤ T0) = true := decide_eq_true hlt
      have hjl : j < cntV y far h := by rw [HCN.out]; omega
      have v0 : 0 ≤ V := by omega
      have vh : V < h := by omega
      have HV : Hid (V = lowV y far + (j : Int)) := Lib.hid (by rw [← HV0.out]; exact hV)
      have HV1 : Hid (V + 1 = V0 + ((j + 1 : Nat) : Int)) := Lib.hid (by omega)
      clear hV
      by_cases g1 : 0 < far
      case neg =>
        have b1 : decide (0 < far) = false := decide_eq_false g1
        have HST : Hid (stepR y far V = 1) := Lib.hid (by unfold stepR; rw [if_neg (fun hh => g1 hh.1)])
        obtain ⟨M, hM⟩ : ∃ M, M = cntR far (1) := ⟨_, rfl⟩
        have HIF : Hid (∀ i : Nat, i < M ↔ uAt x far (1) i ≤ x + far) := Lib.hid fun i => by rw [hM]; exact cntR_iff x hf0 (by omega) i
        have HPF : Hid (∀ i : Nat, i ≤ M → upTo x y far q j ++ rowTo x far q V (1) i <+: ringL x y far q h) := Lib.hid fun i hi => by
          have := ring_prefix x y far q h hjl (i := i) (by rw [← HV.out, HST.out, ← hM]; exact hi)
          rwa [← HV.out, HST.out] at this
        have HROW : Hid (upTo x y far q j ++ rowTo x far q V (1) M = upTo x y far q (j + 1)) := Lib.hid (by
          rw [upTo_succ, ← HV.out]; unfold rowL; rw [HST.out, ← hM])
        have HM := Lib.hid hM; clear hM
        have s0 : 0 < 1 := by omega
        have s16 : 1 ≤ 16 := by omega
        gi_wp2
        gi_loopw [8] (fun u wr => ∃ (i : Nat) (U : Int) (pre : List (TxI q h)), i ≤ M ∧ u = .int .i64 U ∧ Hid (U = uAt x far (1) i) ∧ x - far ≤ U ∧ U ≤ x + far + 1 ∧ Hid (vals pre = upTo x y far q j ++ rowTo x far q V (1) i) ∧ Hid (J pre wr) ∧ Below n₀ W wr) (fun u _ => (x + far + 1 - intOf u).toNat)
        case atStart => exact ⟨0, x - far, pre, by omega, rfl, Lib.hid (by simp [uAt]), by omega, by omega, Lib.hid (by rw [hpre.out]; simp [rowTo]), hJ, hbW⟩
        case round =>
          clear cx cy cf p0 p1 hJ hpre hbW
          obtain ⟨i, U, pre, hi, rfl, hU, hU1, hU2, hpre, hJ, hbW⟩ := hrel
          obtain ⟨p0, p1, cx, cy, cf, _, _, _, _⟩ := HRG.out.below hbW
          by_cases hu : U ≤ x + far
          · have tu : decide (U ≤ x + far) = true := decide_eq_true hu
            have him : i < M := (HIF.out i).2 (by rw [← hU.out]; exact hu)
            have hU' : Hid (U + 1 = uAt x far (1) (i + 1)) := Lib.hid (by rw [uAt_succ, ← hU.out])
            by_cases hu0 : 0 ≤ U
            · have tu0 : decide (0 ≤ U) = true := decide_eq_true hu0
              by_cases huq : U < q
              · have tuq : decide (U < (q : Int)) = true := decide_eq_true huq
                have HP : Hid (vals (pre ++ [(⟨⟨U, V⟩, hu0, huq, v0, vh⟩ : TxI q h)]) = upTo x y far q j ++ rowTo x far q V (1) (i + 1)) := Lib.hid (by
                  rw [vals_snoc, hpre.out, rowTo_succ, ← hU.out, inW_some.2 ⟨hu0, huq, rfl⟩, List.append_assoc]; rfl)
                have hlen : pre.length < (ringL x y far q h).length := by
                  have := (HPF.out (i + 1) him).length_le
                  rw [← HP.out, vals_len] at this
                  simp at this; omega
                obtain ⟨fn, tmps, assign, body, hy, hR⟩ := HY.out pre (⟨⟨U, V⟩, hu0, huq, v0, vh⟩ : TxI q h) wr hJ.out hlen
                dsimp only [ptV] at hy
                clear hlen
                gi_wp2
                refine hR.mono ?_
                rintro e W3 (⟨rfl, hJ3, hk3⟩ | ⟨rfl, hJx3⟩)
                · obtain ⟨p0, p1, cx, cy, cf, _, _, _, _⟩ := HRG.out.below (hbW.trans hk3)
                  have HJ3 := Lib.hid hJ3; clear hJ3
                  gi_wp2
                  go_roundw
                  case rel => exact ⟨i + 1, U + 1, _, him, rfl, hU', by omega, by omega, HP, HJ3, hbW.trans hk3⟩
                  case measure => simp only [intOf]; omega
                · have HJx := Lib.hid hJx3; clear hJx3
                  gi_wp2
                  refine bodyPost_ret (results_none rfl _ _ _) rfl ?_
                  exact ⟨⟨_, rfl⟩, .inr ⟨_, by rw [HP.out]; exact HPF.out _ him, HJx.out⟩⟩
              · exact absurd huq (by omega)
            · exact absurd hu0 (by omega)
          · have tu : decide (U ≤ x + far) = false := decide_eq_false hu
            have hMi : Hid (i = M) := Lib.hid (by
              rcases Nat.lt_or_ge i M with h9 | h9
              · exact absurd ((HIF.out i).1 h9) (by rw [← hU.out]; exact hu)
              · omega)
            gi_wp2
            go_roundw
            case rel => exact ⟨j + 1, pre, by omega, by rw [HV1.out], Lib.hid (by rw [hpre.out, hMi.out, HROW.out]), hJ, hbW⟩
            case measure => simp only [intOf]; omega

      have b1 : decide (0 < far) = true := decide_eq_true g1
      by_cases g2 : y - far < V
      case neg =>
        have b2 : decide (y - far < V) = false := decide_eq_false g2
        have HST : Hid (stepR y far V = 1) := Lib.hid (by unfold stepR; rw [if_neg (fun hh => g2 hh.2.1)])
        obtain ⟨M, hM⟩ : ∃ M, M = cntR far (1) := ⟨_, rfl⟩
        have HIF : Hid (∀ i : Nat, i < M ↔ uAt x far (1) i ≤ x + far) := Lib.hid fun i => by rw [hM]; exact cntR_iff x hf0 (by omega) i
        have HPF : Hid (∀ i : Nat, i ≤ M → upTo x y far q j ++ rowTo x far q V (1) i <+: ringL x y far q h) := Lib.hid fun i hi => by
          have := ring_prefix x y far q h hjl (i := i) (by rw [← HV.out, HST.out, ← hM]; exact hi)
          rwa [← HV.out, HST.out] at this
        have HROW : Hid (upTo x y far q j ++ rowTo x far q V (1) M = upTo x y far q (j + 1)) := Lib.hid (by
          rw [upTo_succ, ← HV.out]; unfold rowL; rw [HST.out, ← hM])
        have HM := Lib.hid hM; clear hM
        have s0 : 0 < 1 := by omega
        have s16 : 1 ≤ 16 := by omega
        gi_wp2
        gi_loopw [8] (fun u wr => ∃ (i : Nat) (U : Int) (pre : List (TxI q h)), i ≤ M ∧ u = .int .i64 U ∧ Hid (U = uAt x far (1) i) ∧ x - far ≤ U ∧ U ≤ x + far + 1 ∧ Hid (vals pre = upTo x y far q j ++ rowTo x far q V (1) i) ∧ Hid (J pre wr) ∧ Below n₀ W wr) (fun u _ => (x + far + 1 - intOf u).toNat)
        case atStart => exact ⟨0, x - far, pre, by omega, rfl, Lib.hid (by simp [uAt]), by omega, by omega, Lib.hid (by rw [hpre.out]; simp [rowTo]), hJ, hbW⟩
        case round =>
          clear cx cy cf p0 p1 hJ hpre hbW
          obtain ⟨i, U, pre, hi, rfl, hU, hU1, hU2, hpre, hJ, hbW⟩ := hrel
          obtain ⟨p0, p1, cx, cy, cf, _, _, _, _⟩ := HRG.out.below hbW
          by_cases hu : U ≤ x + far
          · have tu : decide (U ≤ x + far) = true := decide_eq_true hu
            have him : i < M := (HIF.out i).2 (by rw [← hU.out]; exact hu)
            have hU' : Hid (U + 1 = uAt x far (1) (i + 1)) := Lib.hid (by rw [uAt_succ, ← hU.out])
            by_cases hu0 : 0 ≤ U
            · have tu0 : decide (0 ≤ U) = true := decide_eq_true hu0
              by_cases huq : U < q
              · have tuq : decide (U < (q : Int)) = true := decide_eq_true huq
                have HP : Hid (vals (pre ++ [(⟨⟨U, V⟩, hu0, huq, v0, vh⟩ : TxI q h)]) = upTo x y far q j ++ rowTo x far q V (1) (i + 1)) := Lib.hid (by
                  rw [vals_snoc, hpre.out, rowTo_succ, ← hU.out, inW_some.2 ⟨hu0, huq, rfl⟩, List.append_assoc]; rfl)
                have hlen : pre.length < (ringL x y far q h).length := by
                  have := (HPF.out (i + 1) him).length_le
                  rw [← HP.out, vals_len] at this
                  simp at this; omega
                obtain ⟨fn, tmps, assign, body, hy, hR⟩ := HY.out pre (⟨⟨U, V⟩, hu0, huq, v0, vh⟩ : TxI q h) wr hJ.out hlen
                dsimp only [ptV] at hy
                clear hlen
                gi_wp2
                refine hR.mono ?_
                rintro e W3 (⟨rfl, hJ3, hk3⟩ | ⟨rfl, hJx3⟩)
                · obtain ⟨p0, p1, cx, cy, cf, _, _, _, _⟩ := HRG.out.below (hbW.trans hk3)
                  have HJ3 := Lib.hid hJ3; clear hJ3
                  gi_wp2
                  go_roundw
                  case rel => exact ⟨i + 1, U + 1, _, him, rfl, hU', by omega, by omega, HP, HJ3, hbW.trans hk3⟩
                  case measure => simp only [intOf]; omega
                · have HJx := Lib.hid hJx3; clear hJx3
                  gi_wp2
                  refine bodyPost_ret (results_none rfl _ _ _) rfl ?_
                  exact ⟨⟨_, rfl⟩, .inr ⟨_, by rw [HP.out]; exact HPF.out _ him, HJx.out⟩⟩
              · have tuq : decide (U < (q : Int)) = false := decide_eq_false huq
                have HP : Hid (vals pre = upTo x y far q j ++ rowTo x far q V (1) (i + 1)) := Lib.hid (by
                  rw [hpre.out, rowTo_succ, ← hU.out, show inW q V U = none by unfold inW; rw [if_neg (fun hh => huq hh.2)]]; simp)
                gi_wp2
                refine ⟨fun _ h => (by cases h), ?_⟩
                gi_wp2
                go_roundw
                case rel => exact ⟨i + 1, U + 1, pre, him, rfl, hU', by omega, by omega, HP, hJ, hbW⟩
                case measure => simp only [intOf]; omega
            · have tu0 : decide (0 ≤ U) = false := decide_eq_false hu0
              have HP : Hid (vals pre = upTo x y far q j ++ rowTo x far q V (1) (i + 1)) := Lib.hid (by
                rw [hpre.out, rowTo_succ, ← hU.out, show inW q V U = none by unfold inW; rw [if_neg (fun hh => hu0 hh.1)]]; simp)
              gi_wp2
              refine ⟨fun _ h => (by cases h), ?_⟩
              gi_wp2
              go_roundw
              case rel => exact ⟨i + 1, U + 1, pre, him, rfl, hU', by omega, by omega, HP, hJ, hbW⟩
              case measure => simp only [intOf]; omega
          · have tu : decide (U ≤ x + far) = false := decide_eq_false hu
            have hMi : Hid (i = M) := Lib.hid (by
              rcases Nat.lt_or_ge i M with h9 | h9
              · exact absurd ((HIF.out i).1 h9) (by rw [← hU.out]; exact hu)
              · omega)
            gi_wp2
            go_roundw
            case rel => exact ⟨j + 1, pre, by omega, by rw [HV1.out], Lib.hid (by rw [hpre.out, hMi.out, HROW.out]), hJ, hbW⟩
            case measure => simp only [intOf]; omega

      have b2 : decide (y - far < V) = true := decide_eq_true g2
      by_cases g3 : V < y + far
      case neg =>
        have b3 : decide (V < y + far) = false := decide_eq_false g3
        have HST : Hid (stepR y far V = 1) := Lib.hid (by unfold stepR; rw [if_neg (fun hh => g3 hh.2.2)])
        obtain ⟨M, hM⟩ : ∃ M, M = cntR far (1) := ⟨_, rfl⟩
        have HIF : Hid (∀ i : Nat, i < M ↔ uAt x far (1) i ≤ x + far) := Lib.hid fun i => by rw [hM]; exact cntR_iff x hf0 (by omega) i
        have HPF : Hid (∀ i : Nat, i ≤ M → upTo x y far q j ++ rowTo x far q V (1) i <+: ringL x y far q h) := Lib.hid fun i hi => by
          have := ring_prefix x y far q h hjl (i := i) (by rw [← HV.out, HST.out, ← hM]; exact hi)
          rwa [← HV.out, HST.out] at this
        have HROW : Hid (upTo x y far q j ++ rowTo x far q V (1) M = upTo x y far q (j + 1)) := Lib.hid (by
          rw [upTo_succ, ← HV.out]; unfold rowL; rw [HST.out, ← hM])
        have HM := Lib.hid hM; clear hM
        have s0 : 0 < 1 := by omega
        have s16 : 1 ≤ 16 := by omega
        gi_wp2
        gi_loopw [8] (fun u wr => ∃ (i : Nat) (U : Int) (pre : List (TxI q h)), i ≤ M ∧ u = .int .i64 U ∧ Hid (U = uAt x far (1) i) ∧ x - far ≤ U ∧ U ≤ x + far + 1 ∧ Hid (vals pre = upTo x y far q j ++ rowTo x far q V (1) i) ∧ Hid (J pre wr) ∧ Below n₀ W wr) (fun u _ => (x + far + 1 - intOf u).toNat)
        case atStart => exact ⟨0, x - far, pre, by omega, rfl, Lib.hid (by simp [uAt]), by omega, by omega, Lib.hid (by rw [hpre.out]; simp [rowTo]), hJ, hbW⟩
        case round =>
          clear cx cy cf p0 p1 hJ hpre hbW
          obtain ⟨i, U, pre, hi, rfl, hU, hU1, hU2, hpre, hJ, hbW⟩ := hrel
          obtain ⟨p0, p1, cx, cy, cf, _, _, _, _⟩ := HRG.out.below hbW
          by_cases hu : U ≤ x + far
          · have tu : decide (U ≤ x + far) = true := decide_eq_true hu
            have him : i < M := (HIF.out i).2 (by rw [← hU.out]; exact hu)
            have hU' : Hid (U + 1 = uAt x far (1) (i + 1)) := Lib.hid (by rw [uAt_succ, ← hU.out])
            by_cases hu0 : 0 ≤ U
            · have tu0 : decide (0 ≤ U) = true := decide_eq_true hu0
              by_cases huq : U < q
              · have tuq : decide (U < (q : Int)) = true := decide_eq_true huq
                have HP : Hid (vals (pre ++ [(⟨⟨U, V⟩, hu0, huq, v0, vh⟩ : TxI q h)]) = upTo x y far q j ++ rowTo x far q V (1) (i + 1)) := Lib.hid (by
                  rw [vals_snoc, hpre.out, rowTo_succ, ← hU.out, inW_some.2 ⟨hu0, huq, rfl⟩, List.append_assoc]; rfl)
                have hlen : pre.length < (ringL x y far q h).length := by
                  have := (HPF.out (i + 1) him).length_le
                  rw [← HP.out, vals_len] at this
                  simp at this; omega
                obtain ⟨fn, tmps, assign, body, hy, hR⟩ := HY.out pre (⟨⟨U, V⟩, hu0, huq, v0, vh⟩ : TxI q h) wr hJ.out hlen
                dsimp only [ptV] at hy
                clear hlen
                gi_wp2
                refine hR.mono ?_
                rintro e W3 (⟨rfl, hJ3, hk3⟩ | ⟨rfl, hJx3⟩)
                · obtain ⟨p0, p1, cx, cy, cf, _, _, _, _⟩ := HRG.out.below (hbW.trans hk3)
                  have HJ3 := Lib.hid hJ3; clear hJ3
                  gi_wp2
                  go_roundw
                  case rel => exact ⟨i + 1, U + 1, _, him, rfl, hU', by omega, by omega, HP, HJ3, hbW.trans hk3⟩
                  case measure => simp only [intOf]; omega
                · have HJx := Lib.hid hJx3; clear hJx3
                  gi_wp2
                  refine bodyPost_ret (results_none rfl _ _ _) rfl ?_
                  exact ⟨⟨_, rfl⟩, .inr ⟨_, by rw [HP.out]; exact HPF.out _ him, HJx.out⟩⟩
              · have tuq : decide (U < (q : Int)) = false := decide_eq_false huq
                have HP : Hid (vals pre = upTo x y far q j ++ rowTo x far q V (1) (i + 1)) := Lib.hid (by
                  rw [hpre.out, rowTo_succ, ← hU.out, show inW q V U = none by unfold inW; rw [if_neg (fun hh => huq hh.2)]]; simp)
                gi_wp2
                refine ⟨fun _ h => (by cases h), ?_⟩
                gi_wp2
                go_roundw
                case rel => exact ⟨i + 1, U + 1, pre, him, rfl, hU', by omega, by omega, HP, hJ, hbW⟩
                case measure => simp only [intOf]; omega
            · have tu0 : decide (0 ≤ U) = false := decide_eq_false hu0
              have HP : Hid (vals pre = upTo x y far q j ++ rowTo x far q V (1) (i + 1)) := Lib.hid (by
                rw [hpre.out, rowTo_succ, ← hU.out, show inW q V U = none by unfold inW; rw [if_neg (fun hh => hu0 hh.1)]]; simp)
              gi_wp2
              refine ⟨fun _ h => (by cases h), ?_⟩
              gi_wp2
              go_roundw
              case rel => exact ⟨i + 1, U + 1, pre, him, rfl, hU', by omega, by omega, HP, hJ, hbW⟩
              case measure => simp only [intOf]; omega
          · have tu : decide (U ≤ x + far) = false := decide_eq_false hu
            have hMi : Hid (i = M) := Lib.hid (by
              rcases Nat.lt_or_ge i M with h9 | h9
              · exact absurd ((HIF.out i).1 h9) (by rw [← hU.out]; exact hu)
              · omega)
            gi_wp2
            go_roundw
            case rel => exact ⟨j + 1, pre, by omega, by rw [HV1.out], Lib.hid (by rw [hpre.out, hMi.out, HROW.out]), hJ, hbW⟩
            case measure => simp only [intOf]; omega

      have b3 : decide (V < y + far) = true := decide_eq_true g3
      have HST : Hid (stepR y far V = 2 * far) := Lib.hid (by unfold stepR; rw [if_pos ⟨g1, g2, g3⟩])
      obtain ⟨M, hM⟩ : ∃ M, M = cntR far (2 * far) := ⟨_, rfl⟩
      have HIF : Hid (∀ i : Nat, i < M ↔ uAt x far (2 * far) i ≤ x + far) := Lib.hid fun i => by rw [hM]; exact cntR_iff x hf0 (by omega) i
      have HPF : Hid (∀ i : Nat, i ≤ M → upTo x y far q j ++ rowTo x far q V (2 * far) i <+: ringL x y far q h) := Lib.hid fun i hi => by
        have := ring_prefix x y far q h hjl (i := i) (by rw [← HV.out, HST.out, ← hM]; exact hi)
        rwa [← HV.out, HST.out] at this
      have HROW : Hid (upTo x y far q j ++ rowTo x far q V (2 * far) M = upTo x y far q (j + 1)) := Lib.hid (by
        rw [upTo_succ, ← HV.out]; unfold rowL; rw [HST.out, ← hM])
      have HM := Lib.hid hM; clear hM
      have s0 : 0 < 2 * far := by omega
      have s16 : 2 * far ≤ 16 := by omega
      gi_wp2
      gi_loopw [8] (fun u wr => ∃ (i : Nat) (U : Int) (pre : List (TxI q h)), i ≤ M ∧ u = .int .i64 U ∧ Hid (U = uAt x far (2 * far) i) ∧ x - far ≤ U ∧ U ≤ x + far + 2 * far ∧ Hid (vals pre = upTo x y far q j ++ rowTo x far q V (2 * far) i) ∧ Hid (J pre wr) ∧ Below n₀ W wr) (fun u _ => (x + far + 1 - intOf u).toNat)
      case atStart => exact ⟨0, x - far, pre, by omega, rfl, Lib.hid (by simp [uAt]), by omega, by omega, Lib.hid (by rw [hpre.out]; simp [rowTo]), hJ, hbW⟩
      case round =>
        clear cx cy cf p0 p1 hJ hpre hbW
        obtain ⟨i, U, pre, hi, rfl, hU, hU1, hU2, hpre, hJ, hbW⟩ := hrel
        obtain ⟨p0, p1, cx, cy, cf, _, _, _, _⟩ := HRG.out.below hbW
        by_cases hu : U ≤ x + far
        · have tu : decide (U ≤ x + far) = true := decide_eq_true hu
          have him : i < M := (HIF.out i).2 (by rw [← hU.out]; exact hu)
          have hU' : Hid (U + 2 * far = uAt x far (2 * far) (i + 1)) := Lib.hid (by rw [uAt_succ, ← hU.out])
          by_cases hu0 : 0 ≤ U
          · have tu0 : decide (0 ≤ U) = true := decide_eq_true hu0
            by_cases huq : U < q
            · have tuq : decide (U < (q : Int)) = true := decide_eq_true huq
              have HP : Hid (vals (pre ++ [(⟨⟨U, V⟩, hu0, huq, v0, vh⟩ : TxI q h)]) = upTo x y far q j ++ rowTo x far q V (2 * far) (i + 1)) := Lib.hid (by
                rw [vals_snoc, hpre.out, rowTo_succ, ← hU.out, inW_some.2 ⟨hu0, huq, rfl⟩, List.append_assoc]; rfl)
              have hlen : pre.length < (ringL x y far q h).length := by
                have := (HPF.out (i + 1) him).length_le
                rw [← HP.out, vals_len] at this
                simp at this; omega
              obtain ⟨fn, tmps, assign, body, hy, hR⟩ := HY.out pre (⟨⟨U, V⟩, hu0, huq, v0, vh⟩ : TxI q h) wr hJ.out hlen
              dsimp only [ptV] at hy
              clear hlen
              gi_wp2
              refine hR.mono ?_
              rintro e W3 (⟨rfl, hJ3, hk3⟩ | ⟨rfl, hJx3⟩)
              · obtain ⟨p0, p1, cx, cy, cf, _, _, _, _⟩ := HRG.out.below (hbW.trans hk3)
                have HJ3 := Lib.hid hJ3; clear hJ3
                gi_wp2
                go_roundw
                case rel => exact ⟨i + 1, U + 2 * far, _, him, rfl, hU', by omega, by omega, HP, HJ3, hbW.trans hk3⟩
                case measure => simp only [intOf]; omega
              · have HJx := Lib.hid hJx3; clear hJx3
                gi_wp2
                refine bodyPost_ret (results_none rfl _ _ _) rfl ?_
                exact ⟨⟨_, rfl⟩, .inr ⟨_, by rw [HP.out]; exact HPF.out _ him, HJx.out⟩⟩
            · have tuq : decide (U < (q : Int)) = false := decide_eq_false huq
              have HP : Hid (vals pre = upTo x y far q j ++ rowTo x far q V (2 * far) (i + 1)) := Lib.hid (by
                rw [hpre.out, rowTo_succ, ← hU.out, show inW q V U = none by unfold inW; rw [if_neg (fun hh => huq hh.2)]]; simp)
              gi_wp2
              refine ⟨fun _ h => (by cases h), ?_⟩
              gi_wp2
              go_roundw
              case rel => exact ⟨i + 1, U + 2 * far, pre, him, rfl, hU', by omega, by omega, HP, hJ, hbW⟩
              case measure => simp only [intOf]; omega
          · have tu0 : decide (0 ≤ U) = false := decide_eq_false hu0
            have HP : Hid (vals pre = upTo x y far q j ++ rowTo x far q V (2 * far) (i + 1)) := Lib.hid (by
              rw [hpre.out, rowTo_succ, ← hU.out, show inW q V U = none by unfold inW; rw [if_neg (fun hh => hu0 hh.1)]]; simp)
            gi_wp2
            refine ⟨fun _ h => (by cases h), ?_⟩
            gi_wp2
            go_roundw
            case rel => exact ⟨i + 1, U + 2 * far, pre, him, rfl, hU', by omega, by omega, HP, hJ, hbW⟩
            case measure => simp only [intOf]; omega
        · have tu : decide (U ≤ x + far) = false := decide_eq_false hu
          have hMi : Hid (i = M) := Lib.hid (by
            rcases Nat.lt_or_ge i M with h9 | h9
            · exact absurd ((HIF.out i).1 h9) (by rw [← hU.out]; exact hu)
            · omega)
          gi_wp2
          go_roundw
          case rel => exact ⟨j + 1, pre, by omega, by rw [HV1.out], Lib.hid (by rw [hpre.out, hMi.out, HROW.out]), hJ, hbW⟩
          case measure => simp only [intOf]; omega

    · have t0 : decide (V ≤ T0) = false := decide_eq_false hlt
      have hjl : j = cntV y far h := by rw [HCN.out] at hj ⊢; omega
      have HJL := Lib.hid hjl; clear hjl
      gi_wp2
      go_end0
      exact ⟨⟨_, rfl⟩, .inl ⟨pre, by rw [hpre.out, HJL.out]; rfl, hJ.out⟩⟩
end Go.Proofs.Ytmkmmkpigpbkiaa
