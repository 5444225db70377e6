/-
  THE STEPS OF tga's pieces and of the iterator that it hands back.
-/
import Derived.Test.YtfkkppagbhllgaaTgaWalkB
import Derived.RangeFuncNested
import Derived.RangeFuncBound
import Derived.RangeFuncCalls
import Derived.RangeFuncLeaves
import Derived.Shelf.Abstract
import Derived.Shelf.RegionOpen
import Derived.OwnWalkIn
import Derived.TacticsInMore
import Derived.LoopNIn
import Derived.LoopIn
import Derived.Sort.LoopGhostIn
set_option linter.unusedVariables false
set_option linter.unusedSimpArgs false
namespace Go.Proofs.Ytfkkppagbhllgaa
open Go.RowKit Go.Shelf

theorem pieces_any (z : Nat) (l : List UInt8) (w : World) :
    Calls Try.prog 51 #[rowV z l] w fun e w' =>
      e = .returned (.func (.func 65) #[] #[.pointer (some ⟨w.heap.size, 0, none⟩)]) ∧
      w' = w.alloc (.cells #[.string ⟨l.toArray⟩, .int .i64 (z : Int)] 48) := by
  unfold rowV
  go_enter Try.func51, Try.ntmps51
  go_wp2_with fail
  go_ret
  exact ⟨rfl, rfl⟩

attribute [local go_sem] Oper.semAt_some

/-- a piece of a row -/
abbrev PcI (z : Nat) (s : List UInt8) := { p : Nat × Nat × Bool // p.1 < manyT z s ∧ p = (p.1, pendT z s p.1, sameT z s p.1) }
def pvals {z : Nat} {s : List UInt8} (l : List (PcI z s)) : List (Nat × Nat × Bool) := l.map Subtype.val
theorem pvals_snoc {z : Nat} {s : List UInt8} (l : List (PcI z s)) (t : PcI z s) : pvals (l ++ [t]) = pvals l ++ [t.1] := by simp [pvals]
theorem pvals_len {z : Nat} {s : List UInt8} (l : List (PcI z s)) : (pvals l).length = l.length := by simp [pvals]
def pcV (p : Nat × Nat × Bool) : Array Value := #[.agg #[.int .i64 (p.1 : Int), .int .i64 (p.2.1 : Int)], .bool p.2.2]
/-- what a round keeps of the row's variable -/
def KeepB (b : Nat) (A B : World) : Prop := B.heap[b]? = A.heap[b]? ∧ A.heap.size ≤ B.heap.size
theorem KeepB.trans {b : Nat} {A B C : World} (h : KeepB b A B) (k : KeepB b B C) : KeepB b A C := ⟨k.1.trans h.1, Nat.le_trans h.2 k.2⟩
theorem KeepB.of_below {b D : Nat} {A B : World} (h : Below D A B) (hb : b < D) : KeepB b A B := ⟨h.block b hb, h.size⟩
theorem KeepB.cell {b : Nat} {A B : World} (h : KeepB b A B) (j : Nat) : B.cell? ⟨b, j, none⟩ = A.cell? ⟨b, j, none⟩ := by simp [World.cell?, h.1]
theorem abide_below {β : Type} {B : Nat} {J : β → World → Prop} (h : AbidesFrom B J) {s : β} {W W' : World} (hs : J s W) (hb : Below W.heap.size W W') : J s W' :=
  h s W W' none hs ⟨hb.os, hb.tape, hb.output, hb.size, fun k hk _ => hb.block k hk⟩ (fun r e => by cases e)

set_option maxRecDepth 100000 in
set_option maxHeartbeats 6400000 in
theorem pieces1_in (m : Nat) (hm : 1 ≤ m) (l bp z : Nat) (s : List UInt8) (hz : z = 3 ∨ z = 4) (hl : s.length ≤ 1000000) (J Jx : List (PcI z s) → World → Prop) (W : World)
    (hJa : AbidesFrom W.heap.size J)
    (hY : ∀ pre t W1, J pre W1 → pre.length < (piecesT z s (manyT z s) 0).length → YieldAt Fence.wide (m - 1) Try.prog l (pcV t.1) W1 fun e W' =>
      (e = .returned (.bool true) ∧ J (pre ++ [t]) W' ∧ KeepB bp W1 W') ∨ (e = .returned (.bool false) ∧ Jx (pre ++ [t]) W'))
    (c0 : W.cell? ⟨bp, 0, none⟩ = some (.string ⟨s.toArray⟩)) (c1 : W.cell? ⟨bp, 1, none⟩ = some (.int .i64 (z : Int))) (hbp : bp < W.heap.size) (h0 : J [] W) :
    CallsIn Fence.wide m Try.prog 65 #[.func (.yield l) #[] #[], .pointer (some ⟨bp, 0, none⟩)] W fun e W' => (∃ v, e = .returned v) ∧
      ((∃ ys, pvals ys = piecesT z s (manyT z s) 0 ∧ J ys W') ∨ (∃ pre, True ∧ Jx pre W')) := by
  have HY := Lib.hid hY; clear hY
  have HJA := Lib.hid hJa; clear hJa
  have KM := Lib.hid (fun W' => many_any z s W' hz hl)
  have KS := Lib.hid (fun i W' => same_any z s i W' hz hl)
  have hmb : manyT z s ≤ 1000000 := Nat.le_trans (Nat.div_le_self _ _) hl
  unfold rowV at *
  obtain ⟨M, hM⟩ : ∃ M, M = manyT z s := ⟨_, rfl⟩
  obtain ⟨T, hT⟩ : ∃ T, T = piecesT z s (manyT z s) 0 := ⟨_, rfl⟩
  rw [← hT] at HY ⊢
  rw [← hM] at KM KS hmb hT
  have HM := Lib.hid hM; clear hM
  refine callsIn_of_wp Try.func65 rfl trivial ?_ rfl
  simp only [Try.ntmps65, List.size_toArray, List.length_cons, List.length_nil, Nat.reduceAdd, Nat.reduceSub, Array.replicate_succ, Array.replicate_zero, List.push_toArray, List.append_toArray, List.nil_append, List.cons_append]
  gi_wp2
  gi_loopw [3] (fun u wr => ∃ (f n : Nat) (pre : List (PcI z s)), u = .int .i64 (f : Int) ∧ f ≤ M ∧ M ≤ f + n ∧ Hid (pvals pre ++ piecesT z s n f = T) ∧ Hid (J pre wr) ∧ KeepB bp W wr) (fun u _ => M - (intOf u).toNat)
  case atStart => exact ⟨0, M, [], rfl, by omega, by omega, Lib.hid hT.symm, Lib.hid h0, rfl, Nat.le_refl _⟩
  case round =>
    obtain ⟨f, n, pre, rfl, hf, hn, hpre, hJ, hK⟩ := hrel
    have d0 := (hK.cell 0).trans c0
    have d1 := (hK.cell 1).trans c1
    have hbr : bp < wr.heap.size := Nat.lt_of_lt_of_le hbp hK.2
    have HK := Lib.hid hK; clear hK
    by_cases hlt : f < M
    · have t0 : decide ((f : Int) < (M : Int)) = true := decide_eq_true (by omega)
      gi_wp2
      refine ⟨trivial, (callsIn_wide.2 (KM.out _)).mono ?_⟩
      rintro e w1 ⟨rfl, hb1⟩
      have hJ := Lib.hid (abide_below HJA.out hJ.out hb1)
      have d0 : w1.cell? ⟨bp, 0, none⟩ = some (.string ⟨s.toArray⟩) := by rw [hb1.cell (by dsimp only; omega)]; exact d0
      have d1 : w1.cell? ⟨bp, 1, none⟩ = some (.int .i64 (z : Int)) := by rw [hb1.cell (by dsimp only; omega)]; exact d1
      have HK := Lib.hid (HK.out.trans (KeepB.of_below hb1 hbr))
      have hbr : bp < w1.heap.size := Nat.lt_of_lt_of_le hbr hb1.size
      clear hb1
      gi_wp2
      refine ⟨trivial, (callsIn_wide.2 (KS.out f _ hlt)).mono ?_⟩
      rintro e w2 ⟨rfl, hb2⟩
      have hJ := Lib.hid (abide_below HJA.out hJ.out hb2)
      have d0 : w2.cell? ⟨bp, 0, none⟩ = some (.string ⟨s.toArray⟩) := by rw [hb2.cell (by dsimp only; omega)]; exact d0
      have d1 : w2.cell? ⟨bp, 1, none⟩ = some (.int .i64 (z : Int)) := by rw [hb2.cell (by dsimp only; omega)]; exact d1
      have HK := Lib.hid (HK.out.trans (KeepB.of_below hb2 hbr))
      have hbr : bp < w2.heap.size := Nat.lt_of_lt_of_le hbr hb2.size
      clear hb2
      obtain ⟨run, hrun⟩ : ∃ r, r = sameT z s f := ⟨_, rfl⟩
      rw [← hrun]
      have HRUN := Lib.hid hrun; clear hrun
      obtain ⟨L, hL⟩ : ∃ L, L = limT z s f := ⟨_, rfl⟩
      have hLb : L ≤ M ∧ L ≤ f + 128 ∧ f + 1 ≤ L ∧ (M ≤ L ∨ f + 128 ≤ L) := by rw [hL]; unfold limT; rw [← HM.out]; omega
      obtain ⟨hL1, hL2, hL3, hL4⟩ := hLb
      have HE0 : Hid (endT (okT z s run) (L - (f + 1)) (f + 1) = pendT z s f) := Lib.hid (by unfold pendT; rw [← HRUN.out, ← hL])
      clear hL
      gi_wp2
      gi_loopw [5] (fun u wr => ∃ to : Nat, u = .int .i64 (to : Int) ∧ f + 1 ≤ to ∧ to ≤ L ∧ Hid (endT (okT z s run) (L - to) to = pendT z s f) ∧ Hid (J pre wr) ∧ KeepB bp W wr) (fun u _ => L - (intOf u).toNat)
      case atStart => exact ⟨f + 1, by go_num, by omega, hL3, HE0, hJ, HK.out⟩
      case round =>
        clear HE0 hJ HK d0 d1 hbr
        obtain ⟨to, rfl, hto1, hto2, hE, hJ, hK⟩ := hrel
        have d0 := (hK.cell 0).trans c0
        have d1 := (hK.cell 1).trans c1
        have hbr : bp < wr.heap.size := Nat.lt_of_lt_of_le hbp hK.2
        have HK := Lib.hid hK; clear hK
        have w1 : IntKind.i64.wrap ((to : Int) - 1) = (to : Int) - 1 := by rw [IntKind.wrap_i64]; omega
        have w2 : IntKind.i64.wrap ((to : Int) - (f : Int)) = (to : Int) - (f : Int) := by rw [IntKind.wrap_i64]; omega
        have e9 : ((to - 1 : Nat) : Int) = (to : Int) - 1 := by omega
        gi_wp2
        refine ⟨trivial, (callsIn_wide.2 (KM.out _)).mono ?_⟩
        rintro e w3 ⟨rfl, hb3⟩
        have hJ := Lib.hid (abide_below HJA.out hJ.out hb3)
        have d0 : w3.cell? ⟨bp, 0, none⟩ = some (.string ⟨s.toArray⟩) := by rw [hb3.cell (by dsimp only; omega)]; exact d0
        have d1 : w3.cell? ⟨bp, 1, none⟩ = some (.int .i64 (z : Int)) := by rw [hb3.cell (by dsimp only; omega)]; exact d1
        have HK := Lib.hid (HK.out.trans (KeepB.of_below hb3 hbr))
        have hbr : bp < w3.heap.size := Nat.lt_of_lt_of_le hbr hb3.size
        clear hb3
        by_cases h1 : to < M
        · have t1 : decide ((to : Int) < (M : Int)) = true := decide_eq_true (by omega)
          by_cases h2 : to < f + 128
          · have t2 : decide ((to : Int) - (f : Int) < 128) = true := decide_eq_true (by omega)
            have hlim : to < L := by omega
            cases run with
            | true =>
              have K1 := KS.out (to - 1) w3 (by omega)
              rw [e9] at K1
              have HK1 := Lib.hid K1; clear K1
              gi_wp2
              refine ⟨trivial, (callsIn_wide.2 HK1.out).mono ?_⟩
              clear HK1
              rintro e w4 ⟨rfl, hb4⟩
              have hJ := Lib.hid (abide_below HJA.out hJ.out hb4)
              have d0 : w4.cell? ⟨bp, 0, none⟩ = some (.string ⟨s.toArray⟩) := by rw [hb4.cell (by dsimp only; omega)]; exact d0
              have d1 : w4.cell? ⟨bp, 1, none⟩ = some (.int .i64 (z : Int)) := by rw [hb4.cell (by dsimp only; omega)]; exact d1
              have HK := Lib.hid (HK.out.trans (KeepB.of_below hb4 hbr))
              have hbr : bp < w4.heap.size := Nat.lt_of_lt_of_le hbr hb4.size
              clear hb4
              cases hsm : sameT z s (to - 1) with
              | true =>
                have HE2 : Hid (endT (okT z s true) (L - (to + 1)) (to + 1) = pendT z s f) := Lib.hid (by rw [← endT_step hlim (by unfold okT; rw [if_pos rfl]; exact hsm)]; exact hE.out)
                clear hsm
                gi_wp2
                all_goals try (exfalso; rename_i h1 h2; injection h1 with h1; cases h1; done)
                refine ⟨trivial, ?_⟩
                gi_wp2
                go_roundw
                case rel => exact ⟨to + 1, by go_num, by omega, by omega, HE2, hJ, HK.out⟩
                case measure => simp only [intOf]; omega
              | false =>
                have HE2 : Hid (to = pendT z s f) := Lib.hid (by rw [← hE.out, endT_off (fun _ => by unfold okT; rw [if_pos rfl]; exact hsm)])
                clear hsm
                gi_wp2
                all_goals try (exfalso; rename_i h1 h2; injection h1 with h1; cases h1; done)
                refine ⟨trivial, ?_⟩
                obtain ⟨n', rfl⟩ : ∃ n', n = n' + 1 := ⟨n - 1, by omega⟩
                have HP : Hid (pvals (pre ++ [(⟨(f, to, true), by rw [← HM.out]; exact hlt, by rw [← HE2.out, ← HRUN.out]⟩ : PcI z s)]) ++ piecesT z s n' to = T) := Lib.hid (by
                  have e : pvals (pre ++ [(⟨(f, to, true), by rw [← HM.out]; exact hlt, by rw [← HE2.out, ← HRUN.out]⟩ : PcI z s)]) = pvals pre ++ [(f, to, true)] := pvals_snoc _ _
                  rw [e, ← hpre.out, piecesT, if_pos (by rw [← HM.out]; exact hlt), ← HE2.out, ← HRUN.out]
                  simp)
                have hlen : pre.length < T.length := by
                  have := congrArg List.length HP.out
                  rw [List.length_append, pvals_len] at this
                  simp at this; omega
                obtain ⟨fn, tmps, assign, body, hy, hR⟩ := HY.out pre (⟨(f, to, true), by rw [← HM.out]; exact hlt, by rw [← HE2.out, ← HRUN.out]⟩ : PcI z s) _ hJ.out hlen
                dsimp only [pcV] at hy
                clear hlen
                gi_wp2
                refine hR.mono ?_
                rintro e W3 (⟨rfl, hJ3, hk3⟩ | ⟨rfl, hJx3⟩)
                · have HK3 := Lib.hid (HK.out.trans hk3)
                  have HJ3 := Lib.hid hJ3; clear hJ3 hk3
                  gi_wp2
                  go_roundw
                  case rel => exact ⟨to, n', _, rfl, by omega, by omega, HP, HJ3, HK3.out⟩
                  case measure => simp only [intOf]; omega
                · have HJx := Lib.hid hJx3; clear hJx3
                  gi_wp2
                  refine bodyPost_ret (results_none rfl _ _ _) rfl ?_
                  exact ⟨⟨_, rfl⟩, .inr ⟨_, trivial, HJx.out⟩⟩
            | false =>
              have HK1 := Lib.hid (KS.out to w3 (by omega))
              gi_wp2
              refine ⟨trivial, ?_⟩
              gi_wp2
              refine ⟨trivial, (callsIn_wide.2 HK1.out).mono ?_⟩
              clear HK1
              rintro e w4 ⟨rfl, hb4⟩
              have hJ := Lib.hid (abide_below HJA.out hJ.out hb4)
              have d0 : w4.cell? ⟨bp, 0, none⟩ = some (.string ⟨s.toArray⟩) := by rw [hb4.cell (by dsimp only; omega)]; exact d0
              have d1 : w4.cell? ⟨bp, 1, none⟩ = some (.int .i64 (z : Int)) := by rw [hb4.cell (by dsimp only; omega)]; exact d1
              have HK := Lib.hid (HK.out.trans (KeepB.of_below hb4 hbr))
              have hbr : bp < w4.heap.size := Nat.lt_of_lt_of_le hbr hb4.size
              clear hb4
              cases hsm : sameT z s to with
              | false =>
                have HE2 : Hid (endT (okT z s false) (L - (to + 1)) (to + 1) = pendT z s f) := Lib.hid (by rw [← endT_step hlim (by unfold okT; rw [if_neg (by simp), hsm]; rfl)]; exact hE.out)
                clear hsm
                gi_wp2
                go_roundw
                case rel => exact ⟨to + 1, by go_num, by omega, by omega, HE2, hJ, HK.out⟩
                case measure => simp only [intOf]; omega
              | true =>
                have HE2 : Hid (to = pendT z s f) := Lib.hid (by rw [← hE.out, endT_off (fun _ => by unfold okT; rw [if_neg (by simp), hsm]; rfl)])
                clear hsm
                obtain ⟨n', rfl⟩ : ∃ n', n = n' + 1 := ⟨n - 1, by omega⟩
                have HP : Hid (pvals (pre ++ [(⟨(f, to, false), by rw [← HM.out]; exact hlt, by rw [← HE2.out, ← HRUN.out]⟩ : PcI z s)]) ++ piecesT z s n' to = T) := Lib.hid (by
                  have e : pvals (pre ++ [(⟨(f, to, false), by rw [← HM.out]; exact hlt, by rw [← HE2.out, ← HRUN.out]⟩ : PcI z s)]) = pvals pre ++ [(f, to, false)] := pvals_snoc _ _
                  rw [e, ← hpre.out, piecesT, if_pos (by rw [← HM.out]; exact hlt), ← HE2.out, ← HRUN.out]
                  simp)
                have hlen : pre.length < T.length := by
                  have := congrArg List.length HP.out
                  rw [List.length_append, pvals_len] at this
                  simp at this; omega
                obtain ⟨fn, tmps, assign, body, hy, hR⟩ := HY.out pre (⟨(f, to, false), by rw [← HM.out]; exact hlt, by rw [← HE2.out, ← HRUN.out]⟩ : PcI z s) _ hJ.out hlen
                dsimp only [pcV] at hy
                clear hlen
                gi_wp2
                refine hR.mono ?_
                rintro e W3 (⟨rfl, hJ3, hk3⟩ | ⟨rfl, hJx3⟩)
                · have HK3 := Lib.hid (HK.out.trans hk3)
                  have HJ3 := Lib.hid hJ3; clear hJ3 hk3
                  gi_wp2
                  go_roundw
                  case rel => exact ⟨to, n', _, rfl, by omega, by omega, HP, HJ3, HK3.out⟩
                  case measure => simp only [intOf]; omega
                · have HJx := Lib.hid hJx3; clear hJx3
                  gi_wp2
                  refine bodyPost_ret (results_none rfl _ _ _) rfl ?_
                  exact ⟨⟨_, rfl⟩, .inr ⟨_, trivial, HJx.out⟩⟩
          · have t2 : decide ((to : Int) - (f : Int) < 128) = false := decide_eq_false (by omega)
            have HE2 : Hid (to = pendT z s f) := Lib.hid (by rw [← hE.out, endT_off (fun h => by omega)])
            gi_wp2
            all_goals try (exfalso; rename_i h1 h2; injection h1 with h1; cases h1; done)
            refine ⟨trivial, ?_⟩
            gi_wp2
            all_goals try (exfalso; rename_i h1 h2; injection h1 with h1; cases h1; done)
            refine ⟨trivial, ?_⟩
            obtain ⟨n', rfl⟩ : ∃ n', n = n' + 1 := ⟨n - 1, by omega⟩
            have HP : Hid (pvals (pre ++ [(⟨(f, to, run), by rw [← HM.out]; exact hlt, by rw [← HE2.out, ← HRUN.out]⟩ : PcI z s)]) ++ piecesT z s n' to = T) := Lib.hid (by
              have e : pvals (pre ++ [(⟨(f, to, run), by rw [← HM.out]; exact hlt, by rw [← HE2.out, ← HRUN.out]⟩ : PcI z s)]) = pvals pre ++ [(f, to, run)] := pvals_snoc _ _
              rw [e, ← hpre.out, piecesT, if_pos (by rw [← HM.out]; exact hlt), ← HE2.out, ← HRUN.out]
              simp)
            have hlen : pre.length < T.length := by
              have := congrArg List.length HP.out
              rw [List.length_append, pvals_len] at this
              simp at this; omega
            obtain ⟨fn, tmps, assign, body, hy, hR⟩ := HY.out pre (⟨(f, to, run), by rw [← HM.out]; exact hlt, by rw [← HE2.out, ← HRUN.out]⟩ : PcI z s) _ hJ.out hlen
            dsimp only [pcV] at hy
            clear hlen
            gi_wp2
            refine hR.mono ?_
            rintro e W3 (⟨rfl, hJ3, hk3⟩ | ⟨rfl, hJx3⟩)
            · have HK3 := Lib.hid (HK.out.trans hk3)
              have HJ3 := Lib.hid hJ3; clear hJ3 hk3
              gi_wp2
              go_roundw
              case rel => exact ⟨to, n', _, rfl, by omega, by omega, HP, HJ3, HK3.out⟩
              case measure => simp only [intOf]; omega
            · have HJx := Lib.hid hJx3; clear hJx3
              gi_wp2
              refine bodyPost_ret (results_none rfl _ _ _) rfl ?_
              exact ⟨⟨_, rfl⟩, .inr ⟨_, trivial, HJx.out⟩⟩
        · have t1 : decide ((to : Int) < (M : Int)) = false := decide_eq_false (by omega)
          have HE2 : Hid (to = pendT z s f) := Lib.hid (by rw [← hE.out, endT_off (fun h => by omega)])
          gi_wp2
          all_goals try (exfalso; rename_i h1 h2; injection h1 with h1; cases h1; done)
          refine ⟨trivial, ?_⟩
          gi_wp2
          all_goals try (exfalso; rename_i h1 h2; injection h1 with h1; cases h1; done)
          refine ⟨trivial, ?_⟩
          obtain ⟨n', rfl⟩ : ∃ n', n = n' + 1 := ⟨n - 1, by omega⟩
          have HP : Hid (pvals (pre ++ [(⟨(f, to, run), by rw [← HM.out]; exact hlt, by rw [← HE2.out, ← HRUN.out]⟩ : PcI z s)]) ++ piecesT z s n' to = T) := Lib.hid (by
            have e : pvals (pre ++ [(⟨(f, to, run), by rw [← HM.out]; exact hlt, by rw [← HE2.out, ← HRUN.out]⟩ : PcI z s)]) = pvals pre ++ [(f, to, run)] := pvals_snoc _ _
            rw [e, ← hpre.out, piecesT, if_pos (by rw [← HM.out]; exact hlt), ← HE2.out, ← HRUN.out]
            simp)
          have hlen : pre.length < T.length := by
            have := congrArg List.length HP.out
            rw [List.length_append, pvals_len] at this
            simp at this; omega
          obtain ⟨fn, tmps, assign, body, hy, hR⟩ := HY.out pre (⟨(f, to, run), by rw [← HM.out]; exact hlt, by rw [← HE2.out, ← HRUN.out]⟩ : PcI z s) _ hJ.out hlen
          dsimp only [pcV] at hy
          clear hlen
          gi_wp2
          refine hR.mono ?_
          rintro e W3 (⟨rfl, hJ3, hk3⟩ | ⟨rfl, hJx3⟩)
          · have HK3 := Lib.hid (HK.out.trans hk3)
            have HJ3 := Lib.hid hJ3; clear hJ3 hk3
            gi_wp2
            go_roundw
            case rel => exact ⟨to, n', _, rfl, by omega, by omega, HP, HJ3, HK3.out⟩
            case measure => simp only [intOf]; omega
          · have HJx := Lib.hid hJx3; clear hJx3
            gi_wp2
            refine bodyPost_ret (results_none rfl _ _ _) rfl ?_
            exact ⟨⟨_, rfl⟩, .inr ⟨_, trivial, HJx.out⟩⟩
    · have t0 : decide ((f : Int) < (M : Int)) = false := decide_eq_false (by omega)
      gi_wp2
      refine ⟨trivial, (callsIn_wide.2 (KM.out _)).mono ?_⟩
      rintro e w1 ⟨rfl, hb1⟩
      have hJ := Lib.hid (abide_below HJA.out hJ.out hb1)
      have d0 : w1.cell? ⟨bp, 0, none⟩ = some (.string ⟨s.toArray⟩) := by rw [hb1.cell (by dsimp only; omega)]; exact d0
      have d1 : w1.cell? ⟨bp, 1, none⟩ = some (.int .i64 (z : Int)) := by rw [hb1.cell (by dsimp only; omega)]; exact d1
      have HK := Lib.hid (HK.out.trans (KeepB.of_below hb1 hbr))
      have hbr : bp < w1.heap.size := Nat.lt_of_lt_of_le hbr hb1.size
      clear hb1
      have HFIN : Hid (pvals pre = T) := Lib.hid (by
        rw [← hpre.out]
        cases n with
        | zero => simp [piecesT]
        | succ n => rw [piecesT, if_neg (by rw [← HM.out]; exact hlt)]; simp)
      gi_wp2
      go_end0
      exact ⟨⟨_, rfl⟩, .inl ⟨pre, HFIN.out, hJ.out⟩⟩
end Go.Proofs.Ytfkkppagbhllgaa
