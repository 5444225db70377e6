/-
  THE STEPS OF tga's (row).packed and Pack.
-/
import Derived.Test.YtfkkppagbhllgaaTgaWalkC
import Derived.Test.YtfkkppagbhllgaaBld
import Derived.Test.YtfkkppagbhllgaaMixIn
import Derived.Laws.EntriesVeiled
set_option linter.unusedVariables false
set_option linter.unusedSimpArgs false
namespace Go.Proofs.Ytfkkppagbhllgaa
open Go.RowKit Go.Shelf

attribute [local go_sem] Oper.semAt_some

theorem pieces_stops (bp z : Nat) (s : List UInt8) (hz : z = 3 ∨ z = 4) (hl : s.length ≤ 1000000) (w : World)
    (c0 : w.cell? ⟨bp, 0, none⟩ = some (.string ⟨s.toArray⟩)) (c1 : w.cell? ⟨bp, 1, none⟩ = some (.int .i64 (z : Int))) (hbp : bp < w.heap.size) :
    SeqStopsK Fence.wide 5 Try.prog 65 #[.pointer (some ⟨bp, 0, none⟩)] (fun t : PcI z s => pcV t.1) (KeepB bp)
      (fun ys => pvals ys = piecesT z s (manyT z s) 0) (fun _ => True) (piecesT z s (manyT z s) 0).length w := fun l J Jx W hW hJ _ hY h0 => by
  have e : ∀ j, W.cell? ⟨bp, j, none⟩ = w.cell? ⟨bp, j, none⟩ := fun j => hW.cell (p := ⟨bp, j, none⟩) hbp
  exact pieces1_in 5 (by omega) l bp z s hz hl J Jx W hJ hY (by rw [e]; exact c0) (by rw [e]; exact c1) (Nat.lt_of_lt_of_le hbp hW.size) h0

theorem pieces_len (z : Nat) (s : List UInt8) : ∀ n f, (piecesT z s n f).length ≤ n
  | 0, _ => by simp [piecesT]
  | n + 1, f => by
    rw [piecesT]
    split
    · have := pieces_len z s n (pendT z s f)
      simp; omega
    · simp
theorem piece_le {z : Nat} {s : List UInt8} (t : PcI z s) (hz : z = 3 ∨ z = 4) : (pieceB z s t.1).length ≤ 513 := by
  obtain ⟨⟨f, u, run⟩, hf, he⟩ := t
  injection he with _ he
  injection he with he1 he2
  simp only at hf he1
  obtain ⟨hb1, hb2, hb3⟩ := pendT_b hf
  unfold pieceB
  dsimp only
  cases run
  · have : (u - f) * z ≤ 128 * 4 := Nat.mul_le_mul (by omega) (by omega)
    simp only [Bool.false_eq_true, if_false, List.length_cons, spanT, List.length_take]
    omega
  · simp only [if_true, List.length_cons, colT, List.length_take]
    omega
theorem flat_le {z : Nat} {s : List UInt8} : ∀ (pre : List (PcI z s)), z = 3 ∨ z = 4 → ((pvals pre).flatMap (pieceB z s)).length ≤ pre.length * 513
  | [], _ => by simp [pvals]
  | t :: pre, hz => by
    have h1 := piece_le t hz
    have h2 := flat_le pre hz
    have e : pvals (t :: pre) = t.1 :: pvals pre := rfl
    rw [e, List.flatMap_cons, List.length_append, List.length_cons]
    omega
/-- packed's memory -/
structure PkAt (w W : World) (z : Nat) (s l : List UInt8) : Prop where
  c0 : W.cell? ⟨w.heap.size, 0, none⟩ = some (.string ⟨s.toArray⟩)
  c1 : W.cell? ⟨w.heap.size, 1, none⟩ = some (.int .i64 (z : Int))
  b : Bld W (w.heap.size + 1) (w.heap.size + 1) l
  r : W.heap[w.heap.size + 1 + 1]? = some (.cells #[.string ⟨s.toArray⟩, .int .i64 (z : Int)] 48 (0, 0))
  below : Below w.heap.size w W
theorem PkAt.own {w W W' : World} {z : Nat} {s l : List UInt8} {row : Option Nat} (h : PkAt w W z s l) (hg : W.grownBy W' row) (hr : ∀ r, row = some r → w.heap.size ≤ r ∧ ∃ o : Obj, W.heap[r]? = some o ∧ o.isCells = false) : PkAt w W' z s l :=
  ⟨cell_kept h.c0 hg (fun r e => (hr r e).2), cell_kept h.c1 hg (fun r e => (hr r e).2), h.b.own hg (fun r e => (hr r e).2),
    by rw [hg.block _ (Array.getElem?_eq_some_iff.1 h.r).1 (fun e => by obtain ⟨o, ho, hc⟩ := (hr _ e.symm).2; rw [h.r] at ho; cases ho; cases hc)]; exact h.r,
    h.below.grown hg h.below.size (fun r e => (hr r e).1)⟩
theorem PkAt.grown {w W W' : World} {z : Nat} {s l : List UInt8} (h : PkAt w W z s l) (hb : Below W.heap.size W W') : PkAt w W' z s l :=
  h.own (row := none) ⟨hb.os, hb.tape, hb.output, hb.size, fun k hk _ => hb.block k hk⟩ (fun r e => by cases e)
theorem PkAt.wrote {w W W' : World} {z : Nat} {s l l' : List UInt8} (h : PkAt w W z s l) (hk : Wrote W W' (w.heap.size + 1) (w.heap.size + 1) l') : PkAt w W' z s l' :=
  ⟨by rw [hk.below.cell (by simp)]; exact h.c0, by rw [hk.below.cell (by simp)]; exact h.c1, hk.is, hk.others _ _ h.r (by simp) (fun c fz e => by injection e with _ e; exact absurd e (by decide)), h.below.trans (hk.below.mono (by omega))⟩
/-- what a step of the body keeps -/
structure Kept3 (w W W' : World) : Prop where
  o : KeepsOthers W W'
  b : KeepB (w.heap.size + 1 + 1) W W'
theorem Kept3.refl (w W : World) : Kept3 w W W := ⟨KeepsOthers.refl _, rfl, Nat.le_refl _⟩
theorem Kept3.trans {w A B C : World} (h : Kept3 w A B) (k : Kept3 w B C) : Kept3 w A C := ⟨h.o.trans k.o, h.b.trans k.b⟩
theorem Kept3.of_below {w W W' : World} {z : Nat} {s l : List UInt8} (h : PkAt w W z s l) (hb : Below W.heap.size W W') : Kept3 w W W' :=
  ⟨⟨hb.size, fun k o hk _ => by rw [hb.block k (Array.getElem?_eq_some_iff.1 hk).1]; exact hk⟩, KeepB.of_below hb (Array.getElem?_eq_some_iff.1 h.r).1⟩
theorem Kept3.of_wrote {w W W' : World} {z : Nat} {s l l' : List UInt8} (h : PkAt w W z s l) (hk : Wrote W W' (w.heap.size + 1) (w.heap.size + 1) l') : Kept3 w W W' :=
  ⟨⟨hk.below.size, fun k o hk1 ho => others_plain h.b hk.others hk1 ho⟩, by rw [KeepB, (h.wrote hk).r, h.r]; exact ⟨rfl, hk.below.size⟩⟩
/-- another variable of two numbers stays -/
theorem pair_wrote {w W W' : World} {l : List UInt8} {g : Nat} {cs : Array Value} (hX : W.heap[g]? = some (.cells cs 82 (0, 0))) (hg : g ≠ w.heap.size + 1) (hk : Wrote W W' (w.heap.size + 1) (w.heap.size + 1) l) : W'.heap[g]? = some (.cells cs 82 (0, 0)) :=
  hk.others _ _ hX (fun e => hg (by injection e)) (fun c fz e => by injection e with _ e; exact absurd e (by decide))

set_option maxRecDepth 100000 in
set_option maxHeartbeats 3200000 in
theorem packed_any (z : Nat) (s : List UInt8) (w : World) (hz : z = 3 ∨ z = 4) (hl : s.length ≤ 1000000) (hm : s.length = manyT z s * z) :
    Calls Try.prog 29 #[rowV z s] w (SR w (packT z s)) := by
  have FIN : Hid (∀ w', Below w.heap.size w w' → SR w (packT z s) (.returned (.string ⟨(packT z s).toArray⟩)) w') := Lib.hid fun w' hb => ⟨rfl, hb⟩
  have HPK : Hid (packT z s = (piecesT z s (manyT z s) 0).flatMap (pieceB z s)) := Lib.hid rfl
  have HLEN : Hid (∀ (pre : List (PcI z s)), pre.length ≤ (piecesT z s (manyT z s) 0).length → ((pvals pre).flatMap (pieceB z s)).length ≤ 1000000000) := Lib.hid fun pre h => by
    have h1 := pieces_len z s (manyT z s) 0
    have h2 : manyT z s ≤ 1000000 := Nat.le_trans (Nat.div_le_self _ _) hl
    have h3 := flat_le pre hz
    omega
  generalize hQ : SR w (packT z s) = Qp at FIN ⊢
  clear hQ
  unfold rowV
  refine (callsIn_wide (n := 6)).1 ?_
  refine callsIn_of_wp_marks Try.func29 rfl trivial ?_ rfl
  simp only [Try.ntmps29, List.size_toArray, List.length_cons, List.length_nil, Nat.reduceAdd, Nat.reduceSub, Array.replicate_succ, Array.replicate_zero, List.push_toArray, List.append_toArray, List.nil_append, List.cons_append]
  have s0 := SlotN.new w [.string ⟨s.toArray⟩, .int .i64 (z : Int)] #[.string ⟨s.toArray⟩, .int .i64 (z : Int)] 48 rfl
  have q0 := s0.c 0 _ rfl
  have q1 := s0.c 1 _ rfl
  gi_wp2
  refine ⟨trivial, (callsIn_wide.2 (pieces_any z s _)).mono ?_⟩
  rintro e w' ⟨rfl, rfl⟩
  obtain ⟨W1, hW1⟩ : ∃ W1, W1 = w.alloc (.cells #[.string ⟨s.toArray⟩, .int .i64 (z : Int)] 48) := ⟨_, rfl⟩
  rw [← hW1] at s0 ⊢
  have z1 : W1.heap.size = w.heap.size + 1 := by rw [hW1]; simp
  have hb1 : Below w.heap.size w W1 := by rw [hW1]; exact (Below.refl _ _).alloc (Nat.le_refl _) _
  have hB := Bld.new W1 (w.heap.size + 1) (w.heap.size + 1) z1.symm (Nat.le_refl _)
  obtain ⟨W2, hW2⟩ : ∃ W2, W2 = W1.alloc (.cells #[.pointer none, .slice none 0 0] 52) := ⟨_, rfl⟩
  rw [← hW2] at hB ⊢
  have z2 : W2.heap.size = w.heap.size + 1 + 1 := by rw [hW2]; simp [z1]
  have hb2 : Below W1.heap.size W1 W2 := by rw [hW2]; exact (Below.refl _ _).alloc (Nat.le_refl _) _
  have s1 := s0.below hb2 (by omega)
  obtain ⟨W0, hW0⟩ : ∃ W0, W0 = W2.alloc (.cells #[.string ⟨s.toArray⟩, .int .i64 (z : Int)] 48) := ⟨_, rfl⟩
  have hr0 : W0.heap[w.heap.size + 1 + 1]? = some (.cells #[.string ⟨s.toArray⟩, .int .i64 (z : Int)] 48 (0, 0)) := by rw [hW0, ← z2]; exact heap_alloc_new W2 _
  have z0 : W0.heap.size = w.heap.size + 1 + 1 + 1 := by rw [hW0]; simp [z2]
  have hb0 : Below W2.heap.size W2 W0 := by rw [hW0]; exact (Below.refl _ _).alloc (Nat.le_refl _) _
  rw [← hW0, z2]
  have s2 := s1.below hb0 (by omega)
  have hP0 : PkAt w W0 z s [] := ⟨s2.c 0 _ rfl, s2.c 1 _ rfl, hB.grown hb0, hr0, hb1.trans ((hb2.mono (by omega)).trans (hb0.mono (by omega)))⟩
  clear hW0 hW1 hW2 s0 s1 s2 q0 q1 hb1 hb2 hb0 hB z1 z2
  have HSEQ := Lib.hid (pieces_stops (w.heap.size + 1 + 1) z s hz hl W0 (by rw [cell_of_row _ _ _ _ _ _ hr0]; rfl) (by rw [cell_of_row _ _ _ _ _ _ hr0]; rfl) (by omega))
  gi_wp2
  refine wpIn_rangeFunc_ownH (F := Fence.wide) rfl (show 1 ≤ 6 by omega) (gf := 65) (lb := #[.pointer (some ⟨w.heap.size + 1 + 1, 0, none⟩)]) rfl trivial (enters_of Try.func65 (by kernel_rfl) rfl)
    HSEQ.out (fun h k => h.trans k) (fun W l o o' hl9 ho hc _ => ⟨by rw [World.putObj_heap_other (by omega)], by simp [World.putObj]⟩) (Below.refl _ _) (fun _ => rfl)
    (fun pre W => PkAt w W z s ((pvals pre).flatMap (pieceB z s)) ∧ W0.heap.size ≤ W.heap.size) (fun _ _ _ => False)
    (fun pre X Y row h hg hr => ⟨h.1.own hg (fun r e => ⟨by have := (hr r e).1; omega, (hr r e).2⟩), Nat.le_trans h.2 hg.size⟩) (fun _ _ _ _ _ h _ _ => h) ⟨hP0, Nat.le_refl _⟩
    (fun t a' W => ∃ Bx, W0.heap.size ≤ Bx ∧ W.heap[Bx]? = some (.cells #[.int .i64 (t.1.1 : Int), .int .i64 (t.1.2.1 : Int)] 82 (0, 0)) ∧ a' = { tmps := #[.agg #[.string ⟨s.toArray⟩, .int .i64 (z : Int)], .pointer (some ⟨w.heap.size, 0, none⟩), .string ⟨#[]⟩, .pointer (some ⟨w.heap.size + 1, 0, none⟩), .pointer (some ⟨Bx, 0, none⟩), .bool t.1.2.2, undef, .agg #[.string ⟨s.toArray⟩, .int .i64 (z : Int)],
      .func (.func 65) #[] #[.pointer (some ⟨w.heap.size + 1 + 1, 0, none⟩)], .agg #[.int .i64 (t.1.1 : Int), .int .i64 (t.1.2.1 : Int)], .bool t.1.2.2, undef, undef, undef, undef, undef, undef, undef, undef, undef, undef, undef, undef, undef, undef, undef, undef, undef, undef, undef, undef, undef, undef, undef, undef, undef, undef, undef, undef, undef, undef, undef, undef, undef, undef], defers := [] })
    (fun t a' _ X Y row hs hg hr => by
      obtain ⟨Bx, h1, h2, h3⟩ := hs
      refine ⟨Bx, h1, ?_, h3⟩
      rw [hg.block Bx (Array.getElem?_eq_some_iff.1 h2).1 (fun e => by obtain ⟨_, o, ho, hc⟩ := hr Bx e.symm; rw [h2] at ho; cases ho; cases hc)]
      exact h2)
    ?assign ?body ?done ?stop
  case assign =>
    rintro l pre t W K' ⟨hI, hsz⟩ hK'
    dsimp only [pcV]
    gi_wp2
    have hbA : Below W.heap.size W (W.alloc (.cells #[.int .i64 (t.1.1 : Int), .int .i64 (t.1.2.1 : Int)] 82)) := (Below.refl _ _).alloc (Nat.le_refl _) _
    exact hK' _ _ ((KeepsOthers.alloc _ _).from _) (KeepB.of_below hbA (by omega)) ⟨hI.grown hbA, Nat.le_trans hsz hbA.size⟩ ⟨W.heap.size, hsz, heap_alloc_new W _, rfl⟩
  case body =>
    rintro l pre t a' W hl9 hr9 ⟨hI, hsz⟩ ⟨Bx, hBx, hX, rfl⟩ hlen
    obtain ⟨⟨f, u, run⟩, hf, he⟩ := t
    simp only at hf he hX
    obtain ⟨hb1, hb2, hb3⟩ := pendT_b hf
    injection he with _ he
    injection he with he1 he2
    rw [← he1] at hb1 hb2 hb3
    have hPB : Hid (∀ h, (pvals (pre ++ [(⟨(f, u, run), h⟩ : PcI z s)])).flatMap (pieceB z s) = (pvals pre).flatMap (pieceB z s) ++ pieceB z s (f, u, run)) := Lib.hid fun h => by rw [pvals_snoc]; simp
    have hL : ((pvals pre).flatMap (pieceB z s)).length ≤ 1000000000 := HLEN.out pre (by omega)
    generalize (pvals pre).flatMap (pieceB z s) = acc at *
    have hmb : manyT z s ≤ 1000000 := Nat.le_trans (Nat.div_le_self _ _) hl
    have x0 : W.cell? ⟨Bx, 0, none⟩ = some (.int .i64 (f : Int)) := by rw [cell_of_row _ _ _ _ _ _ hX]; rfl
    have x1 : W.cell? ⟨Bx, 1, none⟩ = some (.int .i64 (u : Int)) := by rw [cell_of_row _ _ _ _ _ _ hX]; rfl
    have hc9 : (spanT z s f (u - f)).length ≤ 1000 := by
      have : (u - f) * z ≤ 128 * 4 := Nat.mul_le_mul (by omega) (by omega)
      unfold spanT; rw [List.length_take]; omega
    have hc8 : (colT z s f).length ≤ 4 := by unfold colT; rw [List.length_take]; omega
    have hsb := hI.below.size
    have HE1 := Lib.hid he1
    have HE2 := Lib.hid he2
    clear he1 he2
    cases run with
    | true =>
      have hcv : (((UInt8.ofNat (128 + (u - f - 1))).toNat : Nat) : Int) = 128 + ((u : Int) - (f : Int) - 1) := by rw [u8_of _ (by omega)]; omega
      have cv : IntKind.u8.wrap (128 + ((u : Int) - (f : Int) - 1)) = 128 + ((u : Int) - (f : Int) - 1) := by rw [IntKind.wrap_u8]; omega
      have K1 := wbyte_any (w.heap.size + 1) (w.heap.size + 1) acc (UInt8.ofNat (128 + (u - f - 1))) W hI.b (by omega) (by omega)
      rw [hcv] at K1
      have hPE : Hid (pieceB z s (f, u, true) = [UInt8.ofNat (128 + (u - f - 1))] ++ colT z s f) := Lib.hid rfl
      generalize UInt8.ofNat (128 + (u - f - 1)) = c at *
      have HK1 := Lib.hid K1; clear K1 hcv
      gi_wp2
      refine ⟨trivial, (CallsIn.inRound l (callsIn_wide.2 HK1.out)).mono ?_⟩
      clear HK1
      rintro e W1 ⟨rfl, hw1⟩
      have hI1 := hI.wrote hw1
      have hX1 := pair_wrote hX (by omega) hw1
      clear x0 x1
      have x0 : W1.cell? ⟨Bx, 0, none⟩ = some (.int .i64 (f : Int)) := by rw [cell_of_row _ _ _ _ _ _ hX1]; rfl
      have q0 := hI1.c0
      have q1 := hI1.c1
      have HK2 := Lib.hid (at_any z s f W1 hz hl hf)
      unfold rowV at HK2
      have HQ1 := Lib.hid hI1
      have HKP := Lib.hid (Kept3.of_wrote hI hw1)
      have hsz1 : W.heap.size ≤ W1.heap.size := hw1.below.size
      clear hI1
      gi_wp2
      refine ⟨trivial, (CallsIn.inRound l (callsIn_wide.2 HK2.out)).mono ?_⟩
      clear HK2 q0 q1
      rintro e W2 ⟨rfl, hb9⟩
      have HQ2 := Lib.hid (HQ1.out.grown hb9)
      have HKP := Lib.hid (HKP.out.trans (Kept3.of_below HQ1.out hb9))
      have hsz2 : W1.heap.size ≤ W2.heap.size := hb9.size
      have HK3 := Lib.hid (wstr_any (w.heap.size + 1) (w.heap.size + 1) (acc ++ [c]) (colT z s f) W2 HQ2.out.b (by simp; omega) (by omega))
      clear hb9 hw1
      gi_wp2
      refine ⟨trivial, (CallsIn.inRound l (callsIn_wide.2 HK3.out)).mono ?_⟩
      clear HK3
      rintro e W3 ⟨rfl, hw3⟩
      have HQ3 := Lib.hid (HQ2.out.wrote hw3)
      have HKP := Lib.hid (HKP.out.trans (Kept3.of_wrote HQ2.out hw3))
      have hsz3 : W2.heap.size ≤ W3.heap.size := hw3.below.size
      clear hw3
      gi_wp2
      refine ⟨HKP.out.o.from _, HKP.out.b, ?_, by omega⟩
      rw [hPB.out, hPE.out, ← List.append_assoc]
      exact HQ3.out
    | false =>
      have hcv : (((UInt8.ofNat (u - f - 1)).toNat : Nat) : Int) = (u : Int) - (f : Int) - 1 := by rw [u8_of _ (by omega)]; omega
      have cv : IntKind.u8.wrap ((u : Int) - (f : Int) - 1) = (u : Int) - (f : Int) - 1 := by rw [IntKind.wrap_u8]; omega
      have K1 := wbyte_any (w.heap.size + 1) (w.heap.size + 1) acc (UInt8.ofNat (u - f - 1)) W hI.b (by omega) (by omega)
      rw [hcv] at K1
      have hPE : Hid (pieceB z s (f, u, false) = [UInt8.ofNat (u - f - 1)] ++ spanT z s f (u - f)) := Lib.hid rfl
      generalize UInt8.ofNat (u - f - 1) = c at *
      have HK1 := Lib.hid K1; clear K1 hcv
      gi_wp2
      refine ⟨trivial, (CallsIn.inRound l (callsIn_wide.2 HK1.out)).mono ?_⟩
      clear HK1
      rintro e W1 ⟨rfl, hw1⟩
      have hI1 := hI.wrote hw1
      have hX1 := pair_wrote hX (by omega) hw1
      clear x0 x1
      have x0 : W1.cell? ⟨Bx, 0, none⟩ = some (.int .i64 (f : Int)) := by rw [cell_of_row _ _ _ _ _ _ hX1]; rfl
      have x1 : W1.cell? ⟨Bx, 1, none⟩ = some (.int .i64 (u : Int)) := by rw [cell_of_row _ _ _ _ _ _ hX1]; rfl
      have q0 := hI1.c0
      have q1 := hI1.c1
      have huz : u * z ≤ s.length := by rw [hm]; exact Nat.mul_le_mul_right _ hb2
      have hfz : f * z ≤ u * z := Nat.mul_le_mul_right _ (by omega)
      have HS : ∀ W, (Instr.slice 9 (.string ⟨s.toArray⟩) (some (.int .i64 ((f : Int) * (z : Int)))) (some (.int .i64 ((u : Int) * (z : Int)))) none).run Try.prog W = .ok (.string ⟨(spanT z s f (u - f)).toArray⟩) W := fun W => by
        rw [run_sl 9 s _ _ (f * z) (u * z) (by simp) (by simp) hfz huz Try.underlying9 W]
        unfold spanT
        rw [Nat.sub_mul]
      have m0 : (0 : Int) ≤ (f : Int) * (z : Int) := Int.mul_nonneg (by omega) (by omega)
      have m1 : (f : Int) * (z : Int) ≤ 1000000 := by
        have : ((f * z : Nat) : Int) ≤ 1000000 := by omega
        simpa using this
      have m2 : (0 : Int) ≤ (u : Int) * (z : Int) := Int.mul_nonneg (by omega) (by omega)
      have m3 : (u : Int) * (z : Int) ≤ 1000000 := by
        have : ((u * z : Nat) : Int) ≤ 1000000 := by omega
        simpa using this
      have HQ1 := Lib.hid hI1
      have HKP := Lib.hid (Kept3.of_wrote hI hw1)
      have hsz1 : W.heap.size ≤ W1.heap.size := hw1.below.size
      have HK3 := Lib.hid (wstr_any (w.heap.size + 1) (w.heap.size + 1) (acc ++ [c]) (spanT z s f (u - f)) W1 HQ1.out.b (by simp; omega) (by omega))
      clear hI1 hw1 huz hfz
      gi_wp2
      refine ⟨trivial, (CallsIn.inRound l (callsIn_wide.2 HK3.out)).mono ?_⟩
      clear HK3
      rintro e W3 ⟨rfl, hw3⟩
      have HQ3 := Lib.hid (HQ1.out.wrote hw3)
      have HKP := Lib.hid (HKP.out.trans (Kept3.of_wrote HQ1.out hw3))
      have hsz3 : W1.heap.size ≤ W3.heap.size := hw3.below.size
      clear hw3
      gi_wp2
      refine ⟨HKP.out.o.from _, HKP.out.b, ?_, by omega⟩
      rw [hPB.out, hPE.out, ← List.append_assoc]
      exact HQ3.out
  case done =>
    rintro D ys W hD hS ⟨hI, hsz⟩ hKD
    rw [hS, ← HPK.out] at hI
    gi_wp2
    refine ⟨trivial, (callsIn_wide.2 (btext_any _ _ _ W hI.b (by omega))).mono ?_⟩
    rintro e W3 ⟨rfl, hW⟩
    have hKD3 := others_plain hI.b hW.others hKD rfl
    have HB3 := Lib.hid (hI.below.trans (hW.below.mono (by omega)))
    gi_wp2
    show LeavesInM _ _ _ _ _ _ _ _ _
    refine leaves_marks (B := w.heap.size) _ W3 ⟨D, rfl, by omega, hKD3, fun d' h => by simp at h, trivial⟩ fun w' hb' hc => ?_
    exact ⟨.string ⟨(packT z s).toArray⟩, by simp [results, Try.results29, go_sem], FIN.out _ (HB3.out.trans hb')⟩
  case stop => rintro D c' pre W hD hS h; exact h.elim
end Go.Proofs.Ytfkkppagbhllgaa
