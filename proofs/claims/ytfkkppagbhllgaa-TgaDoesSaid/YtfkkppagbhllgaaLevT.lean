/-
  THE WALK OF seam.Level without pairs (DilWalkC, for a seat that has no package dilate).
-/
import Derived.Test.YtfkkppagbhllgaaDilSpec
import Derived.Test.YtfkkppagbhllgaaContT
import Derived.Test.YtfkkppagbhllgaaLex
import Derived.StillTailTactics
import Derived.RegionTactic
import Derived.BigRegion
set_option linter.unusedVariables false
set_option linter.unusedSimpArgs false
namespace Go.Proofs.Ytfkkppagbhllgaa
open Go.RowKit

theorem lodd_any (x : Int) (w : World) : Calls Try.prog 57 #[.int .i64 x] w fun e w' => e = .returned (.bool (!grey x)) ∧ w = w' := by
  by_cases h1 : x < -1
  · have d1 : decide (x < -1) = true := decide_eq_true h1
    go_enter Try.func57, Try.ntmps57
    go_wp2_with fail
    go_ret
    exact ⟨ret_bool (by simp [grey, show ¬ -1 ≤ x by omega]), rfl⟩
  · have d1 : decide (x < -1) = false := decide_eq_false h1
    cases h2 : decide (255 < x)
    all_goals
      go_enter Try.func57, Try.ntmps57
      go_wp2_with fail
      go_ret
      refine ⟨ret_bool ?_, rfl⟩
    · have := of_decide_eq_false h2
      simp [grey, show -1 ≤ x by omega, show x ≤ 255 by omega]
    · have := of_decide_eq_true h2
      simp [grey, show ¬ x ≤ 255 by omega]

/-- the sums of the first k texels: each its own value, and one -/
def sumV (k i : Nat) (x : Int) : Int := if i < k ∧ x ≠ -1 then x else 0
def sumN (k i : Nat) (x : Int) : Int := if i < k ∧ x ≠ -1 then 1 else 0
structure SumsAt (w : World) (g : Nat) (v : List Int) (k : Nat) : Prop where
  c : ∀ i x, v[i]? = some x → w.cell? ⟨g, i * 2, none⟩ = some (.int .i64 (sumV k i x)) ∧ w.cell? ⟨g, i * 2 + 1, none⟩ = some (.int .i64 (sumN k i x))
  f : ∀ j, w.frozen? ⟨g, j, none⟩ = false

theorem sumV_new (k : Nat) (x : Int) : sumV k k x = 0 := by simp [sumV]
theorem sumN_new (k : Nat) (x : Int) : sumN k k x = 0 := by simp [sumN]
theorem SumsAt.skip {w : World} {g : Nat} {v : List Int} {k : Nat} (h : SumsAt w g v k) (hx : v[k]? = some (-1)) : SumsAt w g v (k + 1) := by
  refine ⟨fun i x hi => ?_, h.f⟩
  obtain ⟨h1, h2⟩ := h.c i x hi
  rw [h1, h2]
  by_cases hik : i = k
  · subst hik
    rw [hx] at hi; cases hi
    simp [sumV, sumN]
  · simp only [sumV, sumN, show i < k + 1 ↔ i < k by omega]
    exact ⟨trivial, trivial⟩
theorem SumsAt.step {w : World} {g : Nat} {v : List Int} {k : Nat} {x : Int} (h : SumsAt w g v k) (hx : v[k]? = some x) (h1 : x ≠ -1) :
    SumsAt ((w.setCell ⟨g, k * 2, none⟩ (.int .i64 x)).setCell ⟨g, k * 2 + 1, none⟩ (.int .i64 1)) g v (k + 1) := by
  refine ⟨fun i y hi => ?_, fun j => by rw [World.frozen?_setCell, World.frozen?_setCell]; exact h.f j⟩
  obtain ⟨g1, g2⟩ := h.c i y hi
  obtain ⟨e1, e2⟩ := h.c k x hx
  by_cases hik : i = k
  · subst hik
    rw [hx] at hi; cases hi
    refine ⟨?_, ?_⟩
    · rw [World.cell?_setCell_other _ _ _ _ (by simp)]
      rw [World.cell?_setCell_same' _ _ _ (by rw [e1]; rfl)]
      simp [sumV, h1]
    · rw [World.cell?_setCell_same' _ _ _ (by rw [World.cell?_setCell_other _ _ _ _ (by simp), e2]; rfl)]
      simp [sumN, h1]
  · rw [World.cell?_setCell_other _ _ _ _ (by simp; first | done | omega), World.cell?_setCell_other _ _ _ _ (by simp; first | done | omega), World.cell?_setCell_other _ _ _ _ (by simp; first | done | omega), World.cell?_setCell_other _ _ _ _ (by simp; first | done | omega), g1, g2]
    simp only [sumV, sumN, show i < k + 1 ↔ i < k by omega]
    exact ⟨trivial, trivial⟩
theorem SumsAt.drewN {w : World} {g : Nat} {v : List Int} {k : Nat} (h : SumsAt w g v k) (q : Nat) : SumsAt (w.drewN q) g v k := ⟨h.c, h.f⟩

/-- one number is added -/
def AddRes (w : World) (g : Nat) (v : List Int) (k : Nat) (e : Ending) (w' : World) : Prop := e = .returned (.tuple #[]) ∧ SumsAt w' g v (k + 1) ∧ w.grownBy w' (some g) ∧ w'.heap.size = w.heap.size
theorem grown_set2 (w : World) (g i j : Nat) (a b : Value) : w.grownBy ((w.setCell ⟨g, i, none⟩ a).setCell ⟨g, j, none⟩ b) (some g) :=
  ⟨rfl, rfl, rfl, by simp, fun k _ hk => by rw [heap_setCell_other _ _ _ _ (fun e => hk (by rw [e])), heap_setCell_other _ _ _ _ (fun e => hk (by rw [e]))]⟩

theorem add_any (g b : Nat) (v : List Int) (n k : Nat) (x : Int) (w : World) (hs : SumsAt w g v k) (hx : v[k]? = some x) (hk : k < n) (hn : n ≤ 1000) (hgr : grey x = true) (hb : w.cell? ⟨b, 0, none⟩ = some (.slice (some ⟨g, 0, none⟩) n n)) (hbg : b ≠ g) :
    Calls Try.prog 60 #[.int .i64 k, .int .i64 x, .pointer (some ⟨b, 0, none⟩)] w (AddRes w g v k) := by
  obtain ⟨x1, x2⟩ := grey_iff.1 hgr
  have k0 : (0 : Int) ≤ (k : Int) := by omega
  have k1 : (k : Int) < (n : Int) := by omega
  obtain ⟨c0, c1⟩ := hs.c k x hx
  rw [sumV_new] at c0
  rw [sumN_new] at c1
  have f0 := hs.f (k * 2)
  have f1 := hs.f (k * 2 + 1)
  have ha : (⟨g, 0, none⟩ : Addr).add (k * 2) = ⟨g, k * 2, none⟩ := addr_lit _ _
  by_cases h1 : x = -1
  · subst h1
    have HS := Lib.hid (hs.skip hx)
    clear hs hx
    go_enter Try.func60, Try.ntmps60
    go_wp2_with fail
    go_end0
    exact ⟨rfl, HS.out, World.grownBy.refl _ _, rfl⟩
  · have d1 : (x == -1) = false := by simpa using h1
    have HS := Lib.hid (hs.step hx h1)
    have H1 := Lib.hid h1; clear h1
    clear hs hx
    go_enter Try.func60, Try.ntmps60
    go_wp2_with fail
    go_region
    go_wp2_with fail
    go_region
    go_wp2_with fail
    go_end0
    have hg := grown_set2 w g (k * 2) (k * 2 + 1) (.int .i64 x) (.int .i64 1)
    exact ⟨rfl, ⟨HS.out.c, HS.out.f⟩, ⟨hg.os, hg.tape, hg.output, hg.size, hg.block⟩, by simp⟩

theorem size_pair : (Try.prog.info? 82).map (fun i => (i.zero, i.size, i.bytes)) = some (some (.agg #[.int .i64 0, .int .i64 0]), 2, 16) := by kernel_rfl
theorem madePairs_get (n j : Nat) (hj : j < n * 2) : (madeCells #[.int .i64 0, .int .i64 0] (n * 2))[j]? = some (.int .i64 0) := by
  unfold madeCells
  rw [Array.getElem?_map, Array.getElem?_range, if_pos hj]
  simp
  rcases Nat.mod_two_eq_zero_or_one j with h | h <;> rw [h] <;> rfl
theorem SumsAt.made (w : World) (v : List Int) (n : Nat) (hn : v.length = n) (t : TypeId) : SumsAt (w.alloc (.cells (madeCells #[.int .i64 0, .int .i64 0] (n * 2)) t)) w.heap.size v 0 := by
  have h := heap_alloc_new w (.cells (madeCells #[.int .i64 0, .int .i64 0] (n * 2)) t)
  refine ⟨fun i x hi => ?_, fun j => frozen_of_row _ _ _ _ _ h⟩
  have hlt := (List.getElem?_eq_some_iff.1 hi).1
  rw [cell_of_row _ _ _ _ _ _ h, cell_of_row _ _ _ _ _ _ h]
  exact ⟨madePairs_get n (i * 2) (by omega), madePairs_get n (i * 2 + 1) (by omega)⟩
theorem SumsAt.below {w w' : World} {g B : Nat} {v : List Int} {k : Nat} (h : SumsAt w g v k) (hb : Below B w w') (hg : g < B) : SumsAt w' g v k :=
  ⟨fun i x hi => by rw [hb.cell (by simpa using hg), hb.cell (by simpa using hg)]; exact h.c i x hi, fun j => by rw [hb.frozen (by simpa using hg)]; exact h.f j⟩

def LevelRes (ww : Int) (v : List Int) (w : World) (e : Ending) (w' : World) : Prop := ∃ A n c, e = .returned (.tuple #[.slice A n c, .int .i64 (if levelOk ww v then 0 else 1)]) ∧ Below w.heap.size w w'

theorem level_no (A : Option Addr) (n c : Nat) (v : List Int) (ww : Int) (w : World) (hI : Ints w w.heap.size A n v) (hn : n ≤ 1000) (bw : i64b ww) (hok : levelOk ww v = false) :
    Calls Try.prog 37 #[.int .i64 ww, .slice A n c, .slice none 0 0] w (LevelRes ww v w) := by
  obtain ⟨bw1, bw2⟩ := bw
  have hno := Lib.hid (mt (levelOk_iff (w := ww) (v := v)).2 (by rw [hok]; simp))
  have HOK := Lib.hid hok; clear hok
  have hl := Lib.hid hI.length
  have hB : ∀ a b : Obj, Below w.heap.size w ((w.alloc a).alloc b) := fun a b => ((Below.refl _ _).alloc (Nat.le_refl _) _).alloc (by simp) _
  have fin : ∀ W, Below w.heap.size w W → LevelRes ww v w (.returned (.tuple #[.slice none 0 0, .int .i64 1])) W := fun W hW => ⟨none, 0, 0, by rw [HOK.out]; rfl, hW⟩
  have FIN := Lib.hid fin; clear fin
  by_cases h1 : ww < 1
  · have d1 : decide (ww < 1) = true := decide_eq_true h1
    go_enter Try.func37, Try.ntmps37
    go_wp2_with fail
    go_ret2
    exact FIN.out _ (hB _ _)
  have d1 : decide (ww < 1) = false := decide_eq_false h1
  by_cases h2 : 256 < ww
  · have d2 : decide (256 < ww) = true := decide_eq_true h2
    go_enter Try.func37, Try.ntmps37
    go_wp2_with fail
    go_ret2
    exact FIN.out _ (hB _ _)
  have d2 : decide (256 < ww) = false := decide_eq_false h2
  obtain ⟨q, rfl⟩ : ∃ q : Nat, ww = q := ⟨ww.toNat, by omega⟩
  have q1 : (1 : Int) ≤ (q : Int) := by omega
  cases h3 : ((n : Int) % (q : Int) != 0)
  case true =>
    go_enter Try.func37, Try.ntmps37
    go_wp2_with fail
    go_ret2
    exact FIN.out _ (hB _ _)
  by_cases h4 : (q : Int) * 256 < n
  · have d4 : decide ((q : Int) * 256 < (n : Int)) = true := decide_eq_true h4
    go_enter Try.func37, Try.ntmps37
    go_wp2_with fail
    go_ret2
    exact FIN.out _ (hB _ _)
  have d4 : decide ((q : Int) * 256 < (n : Int)) = false := decide_eq_false h4
  have hany : v.any (fun x => !grey x) = true := by
    cases e : v.any (fun x => !grey x) with
    | true => rfl
    | false =>
      refine absurd ⟨by omega, by omega, ?_, ?_, fun x hx => ?_⟩ hno.out
      · rw [hl.out]; simpa using h3
      · rw [hl.out]; omega
      · have := List.any_eq_false.1 e x hx; simpa using this
  have HCON : Hid (∀ W, Below w.heap.size w W → Calls Try.prog 58 #[.slice A n c, .func (.func 57) #[] #[]] W fun e w' => e = .returned (.bool true) ∧ W = w') := Lib.hid fun W hW => by
    have := containsL_any w.heap.size _ _ lodd_any (run_callFunc_go Try.func57 (by kernel_rfl) (by kernel_rfl)) A n c v W (hI.below hW (Nat.le_refl _))
    rwa [hany] at this
  clear hany hno hI
  go_enter Try.func37, Try.ntmps37
  go_wp2_with fail
  refine (HCON.out _ (hB _ _)).mono ?_
  rintro e w1 ⟨rfl, rfl⟩
  go_wp2_with fail
  go_ret2
  exact FIN.out _ (hB _ _)

/-- Level's variables -/
structure LvAt (W : World) (B : Nat) (q n c : Nat) (A : Option Addr) : Prop where
  c0 : W.cell? ⟨B, 0, none⟩ = some (.int .i64 q)
  c1 : W.cell? ⟨B + 1, 0, none⟩ = some (.slice A n c)
  c3 : W.cell? ⟨B + 1 + 1 + 1, 0, none⟩ = some (.slice (some ⟨B + 1 + 1, 0, none⟩) n n)
  z : B + 4 ≤ W.heap.size
theorem LvAt.new (w : World) (q n c : Nat) (A : Option Addr) (o : Obj) (t1 t2 t3 : TypeId) :
    LvAt ((((w.alloc (.cells #[.int .i64 q] t1)).alloc (.cells #[.slice A n c] t2)).alloc o).alloc (.cells #[.slice (some ⟨w.heap.size + 1 + 1, 0, none⟩) n n] t3)) w.heap.size q n c A where
  c0 := by rw [World.cell?_alloc_lt _ _ _ (by simp; first | done | omega), World.cell?_alloc_lt _ _ _ (by simp; first | done | omega), World.cell?_alloc_lt _ _ _ (by simp), cell_of_row _ _ _ _ _ _ (heap_alloc_new w _)]; rfl
  c1 := by
    have h := heap_alloc_new (w.alloc (.cells #[.int .i64 q] t1)) (.cells #[.slice A n c] t2)
    rw [World.size_alloc] at h
    rw [World.cell?_alloc_lt _ _ _ (by simp; first | done | omega), World.cell?_alloc_lt _ _ _ (by simp), cell_of_row _ _ _ _ _ _ h]; rfl
  c3 := by
    have h := heap_alloc_new (((w.alloc (.cells #[.int .i64 q] t1)).alloc (.cells #[.slice A n c] t2)).alloc o) (.cells #[.slice (some ⟨w.heap.size + 1 + 1, 0, none⟩) n n] t3)
    simp only [World.size_alloc] at h
    rw [cell_of_row _ _ _ _ _ _ h]; rfl
  z := by simp
theorem LvAt.grown {W W' : World} {B q n c : Nat} {A : Option Addr} (h : LvAt W B q n c A) (hg : W.grownBy W' (some (B + 1 + 1))) : LvAt W' B q n c A :=
  ⟨hg.cell h.c0 (by simp; omega), hg.cell h.c1 (by simp), hg.cell h.c3 (by simp), Nat.le_trans h.z hg.size⟩
theorem LvAt.below {W W' : World} {B q n c D : Nat} {A : Option Addr} (h : LvAt W B q n c A) (hb : Below D W W') (hD : B + 4 ≤ D) (hz : B + 4 ≤ W'.heap.size) : LvAt W' B q n c A :=
  ⟨by rw [hb.cell (by simp; omega)]; exact h.c0, by rw [hb.cell (by simp; omega)]; exact h.c1, by rw [hb.cell (by simp; omega)]; exact h.c3, hz⟩

set_option maxRecDepth 100000 in
set_option maxHeartbeats 1600000 in
theorem level_yes (A : Option Addr) (n c : Nat) (v : List Int) (q : Nat) (w : World) (hI : Ints w w.heap.size A n v) (hn : n ≤ 1000) (hok : levelOk q v = true) :
    Calls Try.prog 37 #[.int .i64 q, .slice A n c, .slice none 0 0] w (LevelRes q v w) := by
  obtain ⟨q1, q2, q3, q4, q5⟩ := levelOk_iff.1 hok
  have HOK := Lib.hid hok; clear hok
  have hl := Lib.hid hI.length
  rw [hl.out] at q3 q4
  have hB : ∀ a b : Obj, Below w.heap.size w ((w.alloc a).alloc b) := fun a b => ((Below.refl _ _).alloc (Nat.le_refl _) _).alloc (by simp) _
  have d1 : decide ((q : Int) < 1) = false := decide_eq_false (by omega)
  have d2 : decide ((256 : Int) < (q : Int)) = false := decide_eq_false (by omega)
  have d3 : ((n : Int) % (q : Int) != 0) = false := by simpa using q3
  have d4 : decide ((q : Int) * 256 < (n : Int)) = false := decide_eq_false (by omega)
  have hany : v.any (fun x => !grey x) = false := by
    rw [List.any_eq_false]
    intro x hx
    simp [q5 x hx]
  have HCON : Hid (∀ W, Below w.heap.size w W → Calls Try.prog 58 #[.slice A n c, .func (.func 57) #[] #[]] W fun e w' => e = .returned (.bool false) ∧ W = w') := Lib.hid fun W hW => by
    have := containsL_any w.heap.size _ _ lodd_any (run_callFunc_go Try.func57 (by kernel_rfl) (by kernel_rfl)) A n c v W (hI.below hW (Nat.le_refl _))
    rwa [hany] at this
  have Q5 := Lib.hid q5
  clear hany q3 q5
  obtain ⟨i0, hi0, hz0, hz1, hz2⟩ := info_parts size_pair
  have hmk : ∀ W : World, (Instr.makeSlice 94 (.int .i64 (n : Int)) (.int .i64 (n : Int))).run Try.prog W = .ok (.slice (some ⟨W.heap.size, 0, none⟩) n n) (W.alloc (.cells (madeCells #[.int .i64 0, .int .i64 0] (n * 2)) 82)) := fun W => by
    have := run_make (P := Try.prog) W 94 82 i0 _ Try.underlying94 hi0 hz0 .i64 .i64 n n (by omega) (Int.le_refl _) (by rw [hz2]; omega) (by omega)
    rw [hz1, Int.toNat_natCast] at this
    exact this
  go_enter Try.func37, Try.ntmps37
  go_wp2_with fail
  refine (HCON.out _ (hB _ _)).mono ?_
  rintro e w1 ⟨rfl, rfl⟩
  clear HCON
  go_wp2_with fail
  have hs0 : Hid (SumsAt (((w.alloc (.cells #[.int .i64 q] 3)).alloc (.cells #[.slice A n c] 25)).alloc (.cells (madeCells #[.int .i64 0, .int .i64 0] (n * 2)) 82)) (w.heap.size + 1 + 1) v 0) := Lib.hid (by
    have := SumsAt.made ((w.alloc (.cells #[.int .i64 q] 3)).alloc (.cells #[.slice A n c] 25)) v n hl.out 82
    simpa using this)
  have hlv0 : Hid (LvAt ((((w.alloc (.cells #[.int .i64 q] 3)).alloc (.cells #[.slice A n c] 25)).alloc (.cells (madeCells #[.int .i64 0, .int .i64 0] (n * 2)) 82)).alloc (.cells #[.slice (some ⟨w.heap.size + 1 + 1, 0, none⟩) n n] 94)) w.heap.size q n c A) := Lib.hid (LvAt.new w q n c A _ _ _ _)
  have hb0 : Below w.heap.size w ((((w.alloc (.cells #[.int .i64 q] 3)).alloc (.cells #[.slice A n c] 25)).alloc (.cells (madeCells #[.int .i64 0, .int .i64 0] (n * 2)) 82)).alloc (.cells #[.slice (some ⟨w.heap.size + 1 + 1, 0, none⟩) n n] 94)) := (((hB _ _).alloc (by simp; omega) _).alloc (by simp; omega) _)
  go_loopw [53] (fun i wr => ∃ k : Nat, k ≤ n ∧ i = .int .i64 k ∧ Hid (SumsAt wr (w.heap.size + 1 + 1) v k) ∧ Hid (LvAt wr w.heap.size q n c A) ∧ Below w.heap.size w wr) (fun i _ => n - (intOf i).toNat)
  case atStart => exact ⟨0, by omega, rfl, Lib.hid (hs0.out.below ((Below.refl (w.heap.size + 3) _).alloc (by simp) _) (by omega)), hlv0, hb0⟩
  case round =>
    obtain ⟨k, hk, rfl, hs, hlv, hbk⟩ := hrel
    clear hs0 hlv0 hb0
    by_cases hlt : k < n
    · obtain ⟨ad, x, rfl, hb, hx, hm, hc, hlo, hhi⟩ := (hI.below hbk (Nat.le_refl _)).get hlt
      obtain ⟨l0, l1, l3, lz⟩ := hlv.out
      have HADD := Lib.hid (add_any (w.heap.size + 1 + 1) (w.heap.size + 1 + 1 + 1) v n k x wr hs.out hx hlt hn (Q5.out x hm) l3 (by omega))
      have HX := Lib.hid hx; clear hx hm
      have k0 : (0 : Int) ≤ (k : Int) := by omega
      have k1 : (k : Int) < (n : Int) := by omega
      have t0 : decide ((k : Int) < (n : Int)) = true := decide_eq_true k1
      go_wp2_with fail
      refine HADD.out.mono ?_
      clear HADD
      rintro e w2 ⟨rfl, hs2, hg2, hz2⟩
      have HS2 := Lib.hid hs2; clear hs2
      have HLV := Lib.hid (hlv.out.grown hg2)
      have hbk2 : Below w.heap.size w w2 := hbk.grown hg2 hbk.size (fun j hj => by cases hj; omega)
      clear hg2 hz2
      go_wp2_with fail
      go_roundw
      case rel => exact ⟨k + 1, by omega, by go_num, HS2, HLV, hbk2⟩
      case measure => simp only [intOf]; omega
    · have t0 : decide ((k : Int) < (n : Int)) = false := decide_eq_false (by omega)
      obtain rfl : k = n := by omega
      obtain ⟨wo, rfl⟩ : ∃ wo : World, wo = wr := ⟨_, rfl⟩
      obtain ⟨l0, l1, l3, lz⟩ := hlv.out
      go_wp2_with fail
      go_loopw [65] (fun i wr => i = .int .i64 0 ∧ wr = wo) (fun _ _ => 0)
      case atStart => exact ⟨rfl, rfl⟩
      case round =>
        obtain ⟨rfl, rfl⟩ := hrel
        have HCL := Lib.hid (clone_any A k c v wr ((hI.below hbk (Nat.le_refl _)).more hbk.size) hn)
        go_wp2_with fail
        refine HCL.out.mono ?_
        clear HCL
        intro e w3 h3
        obtain ⟨A3, c3, rfl, hown3, hb3⟩ := h3
        have hlv3 := Lib.hid (hlv.out.below hb3 (by have := hlv.out.z; exact this) (Nat.le_trans hlv.out.z hb3.size))
        have hs3 := Lib.hid (hs.out.below hb3 (by omega))
        have hbk3 : Below w.heap.size w w3 := hbk.trans (hb3.mono hbk.size)
        have hz3 : w.heap.size + 4 ≤ wr.heap.size := lz
        clear hb3 l0 l1 l3 lz hlv hs
        obtain ⟨l0, l1, l3, lz⟩ := hlv3.out
        go_wp2_with fail
        obtain ⟨wp, rfl⟩ : ∃ wp : World, wp = wr := ⟨_, rfl⟩
        go_loopw [118] (fun i wr => ∃ j : Nat, j ≤ k ∧ i = .int .i64 j ∧ Hid (SumsAt wr (w.heap.size + 1 + 1) v k) ∧ Hid (LvAt wr w.heap.size q k c A) ∧ Below w.heap.size w wr ∧ Hid (wr.ownsRow wp.heap.size 3 1 (.slice A3 k c3) k (cellsI v))) (fun i _ => k - (intOf i).toNat)
        case atStart => exact ⟨0, by omega, rfl, hs3, hlv3, hbk3, Lib.hid hown3⟩
        case round =>
          clear hs3 hlv3 hbk3 hown3 l0 l1 l3 lz
          obtain ⟨j, hj, rfl, hs4, hlv4, hbk4, hrow⟩ := hrel
          by_cases hlt2 : j < k
          · obtain ⟨g, hA3, hg1, hg2, hg3, hgc⟩ := own_cells hrow.out (by omega)
            subst hA3
            obtain ⟨ad, x, rfl, hb, hx, hm, hc, hlo, hhi⟩ := (hI.below hbk4 (Nat.le_refl _)).get hlt2
            obtain ⟨l0, l1, l3, lz⟩ := hlv4.out
            obtain ⟨s0, s1⟩ := hs4.out.c j x hx
            have gr := Q5.out x hm
            obtain ⟨x1, x2⟩ := grey_iff.1 gr
            have hc5 : wr.cell? ⟨g, j, none⟩ = some (.int .i64 x) := hgc j _ (by rw [cellsI_get, hx]; rfl)
            have hf5 : wr.frozen? ⟨g, j, none⟩ = false := hrow.out.frozenAt j
            have ha : (⟨g, 0, none⟩ : Addr).add j = ⟨g, j, none⟩ := addr_lit _ _
            have ha2 : (⟨w.heap.size + 1 + 1, 0, none⟩ : Addr).add (j * 2) = ⟨w.heap.size + 1 + 1, j * 2, none⟩ := addr_lit _ _
            have j0 : (0 : Int) ≤ (j : Int) := by omega
            have j1 : (j : Int) < (k : Int) := by omega
            have t1 : decide ((j : Int) < (k : Int)) = true := decide_eq_true j1
            have HX := Lib.hid hx; clear hx hm gr hgc
            by_cases h1 : x = -1
            · subst h1
              clear s0 s1
              go_wp2_with fail
              go_roundw
              case rel => exact ⟨j + 1, by omega, by go_num, hs4, hlv4, hbk4, hrow⟩
              case measure => simp only [intOf]; omega
            · have e1 : (x == -1) = false := by simpa using h1
              have e2 : sumV k j x = x := by simp [sumV, h1, hlt2]
              have e3 : sumN k j x = 1 := by simp [sumN, h1, hlt2]
              rw [e2] at s0
              rw [e3] at s1
              have H1 := Lib.hid h1
              clear e2 e3 h1
              obtain ⟨hr1, hr2⟩ := hrow.out.stored j (.int .i64 x)
              have HROW : Hid ((wr.setCell ⟨g, j, none⟩ (.int .i64 x)).ownsRow wp.heap.size 3 1 (.slice (some ⟨g, 0, none⟩) k c3) k (cellsI v)) := Lib.hid (by
                have : (cellsI v).set j (.int .i64 x) = cellsI v := by
                  refine List.ext_getElem? fun i => ?_
                  rw [List.getElem?_set]
                  by_cases h : j = i
                  · subst h
                    rw [if_pos rfl, cellsI_get, HX.out]
                    rw [cellsI_length, if_pos (by rw [hl.out]; exact hlt2)]; rfl
                  · rw [if_neg h]
                rwa [this] at hr1)
              clear hr1 hr2
              have hbs : Below (w.heap.size + 4) wr (wr.setCell ⟨g, j, none⟩ (.int .i64 x)) := (Below.refl _ _).setCell (p := ⟨g, j, none⟩) (by simp only; omega) _
              have HS6 := Lib.hid (hs4.out.below hbs (by omega))
              have HL6 := Lib.hid (hlv4.out.below hbs (Nat.le_refl _) (Nat.le_trans hlv4.out.z hbs.size))
              have hb6 := hbk4.trans (hbs.mono (by omega))
              clear hbs
              go_wp2_with fail
              go_region
              go_wp2_with fail
              go_roundw
              case rel => exact ⟨j + 1, by omega, by go_num, Lib.hid ⟨HS6.out.c, HS6.out.f⟩, Lib.hid ⟨HL6.out.c0, HL6.out.c1, HL6.out.c3, HL6.out.z⟩, hb6.drew, Lib.hid (by exact HROW.out)⟩
              case measure => simp only [intOf]; omega
          · have t1 : decide ((j : Int) < (k : Int)) = false := decide_eq_false (by omega)
            go_wp2_with fail
            go_ret2
            exact ⟨_, _, _, by rw [HOK.out]; rfl, hbk4⟩

theorem level_any (A : Option Addr) (n c : Nat) (v : List Int) (ww : Int) (w : World) (hI : Ints w w.heap.size A n v) (hn : n ≤ 1000) (bw : i64b ww) :
    Calls Try.prog 37 #[.int .i64 ww, .slice A n c, .slice none 0 0] w (LevelRes ww v w) := by
  cases h : levelOk ww v with
  | false => exact level_no A n c v ww w hI hn bw h
  | true =>
    obtain ⟨q, rfl⟩ : ∃ q : Nat, ww = q := ⟨ww.toNat, by have := (levelOk_iff.1 h).1; omega⟩
    exact level_yes A n c v q w hI hn h
end Go.Proofs.Ytfkkppagbhllgaa
