/-
  THE WALKS OF limewashref07's Fan and Same.
-/
import Derived.Test.YtkdffcoofijhkaaDoorFaceWalkG
import Derived.Deep.QuietTactic
import Derived.ChangeKeysEq
set_option linter.unusedVariables false
set_option linter.unusedSimpArgs false
set_option maxRecDepth 8000
namespace Go.Proofs.YtkdffcoofijhkaaDoor
open Go.RowKit

set_option maxHeartbeats 3200000 in
theorem fanref_any (B : Nat) (A : Option Addr) (n c : Nat) (l : List P3) (w : World) (h : Cors w B A n l) (hB : B ≤ w.heap.size) (hn : n ≤ 100000) :
    Calls Tryd.prog 36 #[.slice A n c] w (FanRes w (fanS l)) := by
  obtain ⟨i0, hi0, hz0, hz1, hz2⟩ := info_parts size_tri
  have hlen := Lib.hid h.length
  have HH := Lib.hid h; clear h
  obtain ⟨R, hR⟩ : ∃ R, R = fanS l := ⟨_, rfl⟩
  have hRl : Hid (R.length = n - 2) := Lib.hid (by rw [hR, fanS_length, hlen.out])
  have HR : Hid (R = fanS l) := Lib.hid hR
  rw [← hR]
  clear hR
  unfold FanRes
  go_enter Tryd.func36, Tryd.ntmps36
  go_wp2_with fail
  go_loopw [3, 4] (fun v i wr => ∃ k : Nat, (k ≤ n - 2) ∧ i = .int .i64 ((k : Int) + 1) ∧ wr.ownsRow w.heap.size 27 9 v k (cellsT (R.take k)) ∧ Hid (Below w.heap.size w wr)) (fun _ i _ => n + 2 - (intOf i).toNat)
  case atStart => exact ⟨0, by omega, rfl, World.ownsRow_nil _ _ _ _, Lib.hid (Below.refl _ _)⟩
  case round =>
    obtain ⟨k, hk, rfl, hown, hB0⟩ := hrel
    by_cases hlt : k + 2 < n
    · have t0 : decide ((k : Int) + 2 < (n : Int)) = true := decide_eq_true (by omega)
      have hC := HH.out.below hB0.out hB
      obtain ⟨ad, a, rfl, hbk, hx0, _, p0, p1, p2⟩ := hC.get (k := 0) (by omega)
      obtain ⟨ad1, b, e1, _, hx1, _, q0, q1, q2⟩ := hC.get (k := k + 1) (by omega)
      obtain rfl : ad = ad1 := by injection e1
      obtain ⟨ad2, c', e2, _, hx2, _, r0, r1, r2⟩ := hC.get (k := k + 2) (by omega)
      obtain rfl : ad = ad2 := by injection e2
      have hfk : Hid (R[k]? = some ⟨a, b, c'⟩) := Lib.hid (by rw [HR.out]; exact fanS_get l k a b c' hx0 hx1 hx2)
      clear hx0 hx1 hx2 e1 e2 hC
      obtain ⟨a0, a1, a2⟩ := a
      obtain ⟨b0, b1, b2⟩ := b
      obtain ⟨c0, c1, c2⟩ := c'
      simp only at p0 p1 p2 q0 q1 q2 r0 r1 r2
      rw [Nat.zero_mul] at p0 p1 p2
      have z0 : ad.add 0 = ad := rfl
      rw [z0] at p0 p1 p2
      have w0 : IntKind.i64.wrap ((k : Int) + 1 + 1) = (k : Int) + 2 := by rw [IntKind.wrap_i64]; omega
      have w9 : (0 : Int) ≤ (k : Int) + 1 := by omega
      have w8 : ((k : Int) + 1).toNat = k + 1 := by omega
      have w7 : ((k : Int) + 2).toNat = k + 2 := by omega
      have w6 : (k : Int) + 1 < (n : Int) := by omega
      have w5 : (0 : Int) ≤ (k : Int) + 2 := by omega
      have w4 : 0 < n := by omega
      have w2 : (k : Int) + 2 < (n : Int) := by omega
      have hlo : ∀ j, u3.ownBlock = some j → w.heap.size ≤ j := fun j hj => (hown.lt j hj).1
      have ha : u3.ownBlock ≠ some ad.block := fun e => by have := hlo _ e; omega
      have hadw : ad.block < wr.heap.size := by have := hB0.out.size; omega
      have ea1 : (ad.add ((k + 1) * 3)).block = ad.block := addr_block _ _
      have ea2 : (ad.add ((k + 2) * 3)).block = ad.block := addr_block _ _
      have ha1 : u3.ownBlock ≠ some (ad.add ((k + 1) * 3)).block := by rw [ea1]; exact ha
      have ha2 : u3.ownBlock ≠ some (ad.add ((k + 2) * 3)).block := by rw [ea2]; exact ha
      have hd1 : (ad.add ((k + 1) * 3)).block < wr.heap.size := by rw [ea1]; exact hadw
      have hd2 : (ad.add ((k + 2) * 3)).block < wr.heap.size := by rw [ea2]; exact hadw
      have HE1 := Lib.hid ea1
      have HE2 := Lib.hid ea2
      clear ea1 ea2 z0
      have hlt9 := hown.1
      have hBs := hB0.out.size
      go_wp2_with fail
      go_region_held3 (fun w' => w'.cell? ad = some (.int .i64 a0) ∧ w'.cell? ⟨ad.block, ad.off + 1, none⟩ = some (.int .i64 a1) ∧ w'.cell? ⟨ad.block, ad.off + 2, none⟩ = some (.int .i64 a2) ∧
          w'.cell? (ad.add ((k + 1) * 3)) = some (.int .i64 b0) ∧ w'.cell? ⟨(ad.add ((k + 1) * 3)).block, (ad.add ((k + 1) * 3)).off + 1, none⟩ = some (.int .i64 b1) ∧ w'.cell? ⟨(ad.add ((k + 1) * 3)).block, (ad.add ((k + 1) * 3)).off + 2, none⟩ = some (.int .i64 b2) ∧
          w'.cell? (ad.add ((k + 2) * 3)) = some (.int .i64 c0) ∧ w'.cell? ⟨(ad.add ((k + 2) * 3)).block, (ad.add ((k + 2) * 3)).off + 1, none⟩ = some (.int .i64 c1) ∧ w'.cell? ⟨(ad.add ((k + 2) * 3)).block, (ad.add ((k + 2) * 3)).off + 2, none⟩ = some (.int .i64 c2))
        (first
          | go_keep
          | (go_split_ands
             refine ⟨?_, ?_, ?_, ?_, ?_, ?_, ?_, ?_, ?_⟩
             · (refine (hgrow.cell_far _ (by simp; omega) ?_).trans ?_; exact Ne.symm ha; assumption)
             · (refine (hgrow.cell_far _ (by simp; omega) ?_).trans ?_; exact Ne.symm ha; assumption)
             · (refine (hgrow.cell_far _ (by simp; omega) ?_).trans ?_; exact Ne.symm ha; assumption)
             · (refine (hgrow.cell_far _ (by simp; omega) ?_).trans ?_; exact Ne.symm ha1; assumption)
             · (refine (hgrow.cell_far _ (by simp; omega) ?_).trans ?_; exact Ne.symm ha1; assumption)
             · (refine (hgrow.cell_far _ (by simp; omega) ?_).trans ?_; exact Ne.symm ha1; assumption)
             · (refine (hgrow.cell_far _ (by simp; omega) ?_).trans ?_; exact Ne.symm ha2; assumption)
             · (refine (hgrow.cell_far _ (by simp; omega) ?_).trans ?_; exact Ne.symm ha2; assumption)
             · (refine (hgrow.cell_far _ (by simp; omega) ?_).trans ?_; exact Ne.symm ha2; assumption)))
        ((refine step_append_lies _ (by rfl) _ _ _ (by rfl) w.heap.size 27 i0 _ 9 72 Tryd.underlying23 hi0 hz0 hz1 hz2 rfl (by omega) u3 k (cellsT (R.take k)) (by rfl) ((hown.alloc _).drew)
            ⟨wr.heap.size, 0, none⟩ 1 1 [.int .i64 a0, .int .i64 a1, .int .i64 a2, .int .i64 b0, .int .i64 b1, .int .i64 b2, .int .i64 c0, .int .i64 c1, .int .i64 c2] (by rfl) (by rfl) (World.news_of_block (cs := #[.int .i64 a0, .int .i64 a1, .int .i64 a2, .int .i64 b0, .int .i64 b1, .int .i64 b2, .int .i64 c0, .int .i64 c1, .int .i64 c2]) (t := 27) (fr := (0, 0)) (heap_alloc_new wr _)) (by simp [Value.oneCell'])
            (by omega) (by unfold maxLen; omega) (by omega) (by simp; omega) (wr.heap.size + 1) (by simp) ?_; intro gg cap w1 hown1 hgrow hat hlt1))
      have hR2 : Hid (cellsT (R.take (k + 1)) = cellsT (R.take k) ++ [.int .i64 a0, .int .i64 a1, .int .i64 a2, .int .i64 b0, .int .i64 b1, .int .i64 b2, .int .i64 c0, .int .i64 c1, .int .i64 c2]) := Lib.hid (by
        rw [take_snoc' _ _ _ hfk.out]; simp [cellsT, cells9, cells3])
      have HO1 := Lib.hid hown1; clear hown1
      have HB1 : Hid (Below w.heap.size w w1) := Lib.hid (((hB0.out.alloc (by omega) _).drew).grown hgrow (by simp; omega) (fun j hj => by have := hlo j hj; omega))
      clear p0 p1 p2 q0 q1 q2 r0 r1 r2 hgrow hown hat hlt1
      go_wp2_with fail
      go_roundw
      case rel => exact ⟨k + 1, by omega, by go_num, by rw [hR2.out]; exact HO1.out, HB1⟩
      case measure => simp only [intOf]; omega
    · have t0 : decide ((k : Int) + 2 < (n : Int)) = false := decide_eq_false (by omega)
      have w0 : IntKind.i64.wrap ((k : Int) + 1 + 1) = (k : Int) + 2 := by rw [IntKind.wrap_i64]; have := hlen.out; omega
      obtain ⟨A', c', rfl⟩ := own_shape hown
      have hk2 : Hid (k = R.length) := Lib.hid (by rw [hRl.out]; omega)
      have HO : Hid (wr.ownsRow w.heap.size 27 9 (.slice A' k c') k (cellsT R)) := Lib.hid (by
        have := hown
        rwa [List.take_of_length_le (by rw [← hk2.out]; exact Nat.le_refl _)] at this)
      clear hown
      go_wp2_with fail
      go_ret
      exact ⟨A', c', by rw [← hk2.out]; rfl, by rw [← hk2.out]; exact HO.out, hB0.out⟩
theorem Tris.getN {w : World} {B n k : Nat} {A : Option Addr} {l : List T3} (h : Tris w B A n l) (hk : k < n) : ∃ ad t, A = some ad ∧ ad.block < B ∧ l[k]? = some t ∧
    w.cell? (ad.add (k * 9)) = some (.int .i64 t.p.a) ∧ w.cell? ⟨(ad.add (k * 9)).block, (ad.add (k * 9)).off + 1, none⟩ = some (.int .i64 t.p.b) ∧ w.cell? ⟨(ad.add (k * 9)).block, (ad.add (k * 9)).off + 2, none⟩ = some (.int .i64 t.p.c) ∧
    w.cell? ⟨(ad.add (k * 9)).block, (ad.add (k * 9)).off + 3, none⟩ = some (.int .i64 t.q.a) ∧ w.cell? ⟨(ad.add (k * 9)).block, (ad.add (k * 9)).off + 4, none⟩ = some (.int .i64 t.q.b) ∧ w.cell? ⟨(ad.add (k * 9)).block, (ad.add (k * 9)).off + 5, none⟩ = some (.int .i64 t.q.c) ∧
    w.cell? ⟨(ad.add (k * 9)).block, (ad.add (k * 9)).off + 6, none⟩ = some (.int .i64 t.r.a) ∧ w.cell? ⟨(ad.add (k * 9)).block, (ad.add (k * 9)).off + 7, none⟩ = some (.int .i64 t.r.b) ∧ w.cell? ⟨(ad.add (k * 9)).block, (ad.add (k * 9)).off + 8, none⟩ = some (.int .i64 t.r.c) := by
  obtain ⟨ad, t, e, hb, hx, _, hc⟩ := h.get hk
  refine ⟨ad, t, e, hb, hx, hc 0 _ rfl, ?_, ?_, ?_, ?_, ?_, ?_, ?_, ?_⟩
  · rw [← addr_off _ (by omega), addr_add_add]; exact hc 1 _ rfl
  · rw [← addr_off _ (by omega), addr_add_add]; exact hc 2 _ rfl
  · rw [← addr_off _ (by omega), addr_add_add]; exact hc 3 _ rfl
  · rw [← addr_off _ (by omega), addr_add_add]; exact hc 4 _ rfl
  · rw [← addr_off _ (by omega), addr_add_add]; exact hc 5 _ rfl
  · rw [← addr_off _ (by omega), addr_add_add]; exact hc 6 _ rfl
  · rw [← addr_off _ (by omega), addr_add_add]; exact hc 7 _ rfl
  · rw [← addr_off _ (by omega), addr_add_add]; exact hc 8 _ rfl
@[go_sem] theorem eq9 (w : World) (a b c d e f g h i : Int) :
    (Op.equalIn 10000 27 (.agg #[.int .i64 a, .int .i64 b, .int .i64 c, .int .i64 d, .int .i64 e, .int .i64 f, .int .i64 g, .int .i64 h, .int .i64 i]) (.agg #[.int .i64 a, .int .i64 b, .int .i64 c, .int .i64 d, .int .i64 e, .int .i64 f, .int .i64 g, .int .i64 h, .int .i64 i])).run Tryd.prog w = .ok true w := by
  obtain ⟨inf, hi⟩ := info_of_underlying Tryd.underlying26
  have hc : Tryd.prog.cellsOf 26 = 3 := by kernel_rfl
  rw [run_equalIn_array w 9999 _ _ Tryd.underlying27 hi]
  have hp : ∀ (xs : Array Value) (o : Nat), (part 26 xs o).run Tryd.prog w = .ok (.agg (xs.extract o (o + 3))) w := by
    intro xs o
    simp [part, isAgg, run_underlying Tryd.underlying26, run_sizeOf w hi, hc]
  have hf : ∀ x y z : Int, (Op.equalIn 9999 26 (.agg #[.int .i64 x, .int .i64 y, .int .i64 z]) (.agg #[.int .i64 x, .int .i64 y, .int .i64 z])).run Tryd.prog w = .ok true w := by
    intro x y z
    have h1 := run_eql_struct (P := Tryd.prog) w 26 #[.int .i64 x, .int .i64 y, .int .i64 z] #[.int .i64 x, .int .i64 y, .int .i64 z]
    simp [go_sem, part]
  simp only [hc, show List.range 3 = [0, 1, 2] from rfl, Op.eqItems, Sem.run_bind, hp, Result.andThen_ok]
  have e0 : (#[.int .i64 a, .int .i64 b, .int .i64 c, .int .i64 d, .int .i64 e, .int .i64 f, .int .i64 g, .int .i64 h, .int .i64 i] : Array Value).extract (0 * 3) (0 * 3 + 3) = #[.int .i64 a, .int .i64 b, .int .i64 c] := rfl
  have e1 : (#[.int .i64 a, .int .i64 b, .int .i64 c, .int .i64 d, .int .i64 e, .int .i64 f, .int .i64 g, .int .i64 h, .int .i64 i] : Array Value).extract (1 * 3) (1 * 3 + 3) = #[.int .i64 d, .int .i64 e, .int .i64 f] := rfl
  have e2 : (#[.int .i64 a, .int .i64 b, .int .i64 c, .int .i64 d, .int .i64 e, .int .i64 f, .int .i64 g, .int .i64 h, .int .i64 i] : Array Value).extract (2 * 3) (2 * 3 + 3) = #[.int .i64 g, .int .i64 h, .int .i64 i] := rfl
  simp only [e0, e1, e2, hf, hp, Sem.run_bind, Result.andThen_ok, Bool.not_true, Bool.false_eq_true, if_false, Sem.run_pure]
@[go_sem] theorem guard9 (w : World) (op : BinOp) (x y : Operand) (xs ys : Array Value) : (eqGuard op 27 x y (.agg xs) (.agg ys)).run Tryd.prog w = .ok () w := run_eqGuard_agg w op _ x y xs ys (by kernel_rfl)
/-- of two equal rows -/
theorem sameT_any (B B' : Nat) (A A' : Option Addr) (n c m d : Nat) (xs : List T3) (w : World) (hx : Tris w B A n xs) (hy : Tris w B' A' m xs) (hn : n ≤ 100000) :
    Calls Tryd.prog 35 #[.slice A n c, .slice A' m d] w fun e w' => e = .returned (.bool true) ∧ Below w.heap.size w w' := by
  have hl := hx.length
  have hl' := hy.length
  obtain rfl : n = m := by omega
  clear hl hl'
  have db : (n != n) = false := by simp
  go_enter Tryd.func35, Tryd.ntmps35
  go_wp2_with fail
  go_loopw [5] (fun i wr => ∃ k : Nat, k ≤ n ∧ i = .int .i64 (k : Int) ∧ ∃ q, wr = w.drewN q) (fun i _ => n - (intOf i).toNat)
  case atStart => exact ⟨0, Nat.zero_le _, rfl, 0, rfl⟩
  case round =>
    obtain ⟨k, hk, rfl, q, rfl⟩ := hrel
    by_cases hlt : k < n
    · obtain ⟨ad, x, rfl, hb, hkx, a0, a1, a2, a3, a4, a5, a6, a7, a8⟩ := hx.getN hlt
      obtain ⟨ad', y, rfl, hb', hky, e0, e1, e2, e3, e4, e5, e6, e7, e8⟩ := hy.getN hlt
      obtain rfl : x = y := by rw [hkx] at hky; injection hky
      clear hkx hky
      obtain ⟨⟨x1, x2, x3⟩, ⟨x4, x5, x6⟩, ⟨x7, x8, x9⟩⟩ := x
      simp only at a0 a1 a2 a3 a4 a5 a6 a7 a8 e0 e1 e2 e3 e4 e5 e6 e7 e8
      have hk0 : (0 : Int) ≤ (k : Int) := by omega
      have hkn : (k : Int) < (n : Int) := by omega
      have t0 : decide ((k : Int) < (n : Int)) = true := decide_eq_true hkn
      have wk : IntKind.i64.wrap ((k : Int) + 1) = (k : Int) + 1 := by rw [IntKind.wrap_i64]; omega
      go_wp2_with fail
      go_quiet (fail)
      go_wp2_with fail
      go_roundw
      case rel => exact ⟨k + 1, by omega, by go_num, _, rfl⟩
      case measure => simp only [intOf]; omega
    · have t0 : decide ((k : Int) < (n : Int)) = false := decide_eq_false (by omega)
      go_wp2_with fail
      go_ret
      exact ⟨rfl, below_drewN (Below.refl _ _) q⟩
end Go.Proofs.YtkdffcoofijhkaaDoor
