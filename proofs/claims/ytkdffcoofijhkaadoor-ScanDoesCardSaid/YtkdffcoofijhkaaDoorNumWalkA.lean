/-
  THE WALKS OF limewashref01.digit, trim, OfInt.
-/
import Derived.Test.YtkdffcoofijhkaaDoorNum
import Derived.Test.YtkdffcoofijhkaaDoorGeo
import Derived.Test.YtkdffcoofijhkaaDoorProg
set_option linter.unusedVariables false
set_option linter.unusedSimpArgs false
namespace Go.Proofs.YtkdffcoofijhkaaDoor
open Go.RowKit

/-- a Num in memory: its digits lie below B -/
structure NumAt (w : World) (B : Nat) (A : Option Addr) (n c : Nat) (x : Int) : Prop where
  row : Ints w B A n (digs x.natAbs)
  cap : n ≤ c
section
variable {w w' : World} {B B' n c : Nat} {A : Option Addr} {x : Int}
theorem NumAt.below (h : NumAt w B A n c x) {b : Nat} (hb : Below b w w') (hB : B ≤ b) : NumAt w' B A n c x := ⟨h.row.below hb hB, h.cap⟩
theorem NumAt.more (h : NumAt w B A n c x) (hB : B ≤ B') : NumAt w B' A n c x := ⟨h.row.more hB, h.cap⟩
theorem NumAt.len (h : NumAt w B A n c x) : (digs x.natAbs).length = n := h.row.length
theorem NumAt.le (h : NumAt w B A n c x) {L : Nat} (hx : x.natAbs < 10 ^ L) : n ≤ L := by rw [← h.len]; exact digs_len_le hx
end
def numV (A : Option Addr) (n c : Nat) (x : Int) : Value := .agg #[.bool (decide (x < 0)), .slice A n c]
/-- A Num is handed back; its digits lie below B, or in memory of the call's own. -/
def NumRes (w : World) (B : Nat) (x : Int) (e : Ending) (w' : World) : Prop :=
  ∃ A n c, e = .returned (.agg #[.bool (decide (x < 0)), .slice A n c]) ∧ NumAt w' w'.heap.size A n c x ∧ (∀ ad, A = some ad → 0 < n → ad.block < B ∨ w.heap.size ≤ ad.block) ∧ Below w.heap.size w w'
/-- A Num is handed back whose digits lie where the argument's lay. -/
def NumSame (w : World) (B : Nat) (A : Option Addr) (c : Nat) (x : Int) (e : Ending) (w' : World) : Prop :=
  ∃ n, e = .returned (.agg #[.bool (decide (x < 0)), .slice A n c]) ∧ NumAt w' B A n c x ∧ Below w.heap.size w w'
theorem NumRes.eq {w w' : World} {B : Nat} {x y : Int} {e : Ending} (h : NumRes w B x e w') (hxy : x = y) : NumRes w B y e w' := hxy ▸ h

theorem ints_set {w : World} {B n : Nat} {A : Option Addr} {l : List Int} (h : Ints w B A n l) (p : Addr) (u : Value) (hp : ∀ ad, A = some ad → 0 < n → ad.block ≠ p.block) : Ints (w.setCell p u) B A n l := by
  refine ⟨⟨h.rd.1, fun h0 => ?_⟩, h.i64, h.len⟩
  obtain ⟨ad, e, hb, hc⟩ := h.rd.2 h0
  refine ⟨ad, e, hb, fun j v hj => ?_⟩
  rw [← hc j v hj]
  refine World.cell?_of_block ?_
  rw [addr_block]
  exact Below.heap_setCell w p u _ (hp ad e h0)
theorem NumAt.set {w : World} {B n c : Nat} {A : Option Addr} {x : Int} (h : NumAt w B A n c x) (p : Addr) (u : Value) (hp : ∀ ad, A = some ad → 0 < n → ad.block ≠ p.block) : NumAt (w.setCell p u) B A n c x := ⟨ints_set h.row p u hp, h.cap⟩
theorem NumAt.lt {w : World} {B n c : Nat} {A : Option Addr} {x : Int} (h : NumAt w B A n c x) : ∀ ad, A = some ad → 0 < n → ad.block < B := by
  intro ad e h0
  obtain ⟨ad', e', hb, _⟩ := h.row.rd.2 h0
  rw [e] at e'; injection e' with e'; subst e'; exact hb
/-- a variable of two cells, new -/
theorem slot2 (w : World) (a b : Value) (t : TypeId) : (w.alloc (.cells #[a, b] t)).cell? ⟨w.heap.size, 0, none⟩ = some a ∧ (w.alloc (.cells #[a, b] t)).cell? ⟨w.heap.size, 1, none⟩ = some b ∧
    (w.alloc (.cells #[a, b] t)).frozen? ⟨w.heap.size, 0, none⟩ = false ∧ (w.alloc (.cells #[a, b] t)).frozen? ⟨w.heap.size, 1, none⟩ = false := by
  have h := heap_alloc_new w (.cells #[a, b] t)
  refine ⟨by rw [cell_of_row _ _ _ _ _ _ h]; rfl, by rw [cell_of_row _ _ _ _ _ _ h]; rfl, frozen_of_row _ _ _ _ _ h, frozen_of_row _ _ _ _ _ h⟩
/-- two cells that may be written -/
structure Slot2 (w : World) (g : Nat) (a b : Value) : Prop where
  c0 : w.cell? ⟨g, 0, none⟩ = some a
  c1 : w.cell? ⟨g, 1, none⟩ = some b
  f0 : w.frozen? ⟨g, 0, none⟩ = false
  f1 : w.frozen? ⟨g, 1, none⟩ = false
theorem Slot2.new (w : World) (a b : Value) (t : TypeId) : Slot2 (w.alloc (.cells #[a, b] t)) w.heap.size a b := ⟨(slot2 w a b t).1, (slot2 w a b t).2.1, (slot2 w a b t).2.2.1, (slot2 w a b t).2.2.2⟩
theorem Slot2.below {w w' : World} {g B : Nat} {a b : Value} (h : Slot2 w g a b) (hb : Below B w w') (hg : g < B) : Slot2 w' g a b :=
  ⟨by rw [hb.cell (by simpa using hg)]; exact h.c0, by rw [hb.cell (by simpa using hg)]; exact h.c1, by rw [hb.frozen (by simpa using hg)]; exact h.f0, by rw [hb.frozen (by simpa using hg)]; exact h.f1⟩

theorem digs_i64 (n : Nat) : I64 (digs n) := fun d hd => by have := digs_ok n d hd; omega

/-! ### digit -/
theorem digit_any (B : Nat) (b : Bool) (A : Option Addr) (n c : Nat) (x : Int) (i : Nat) (w : World) (h : NumAt w B A n c x) (hB : B ≤ w.heap.size) :
    Calls Tryd.prog 88 #[.agg #[.bool b, .slice A n c], .int .i64 i] w fun e w' => e = .returned (.int .i64 (dig x.natAbs i : Nat)) ∧ Below w.heap.size w w' := by
  have hlen := Lib.hid h.len
  by_cases hi : i < n
  · obtain ⟨ad, d, rfl, hb, hk, hm, hc, hlo, hhi⟩ := h.row.get hi
    have hd : d = ((dig x.natAbs i : Nat) : Int) := by
      rw [digs_get i _ (by rw [hlen.out]; exact hi)] at hk
      exact (Option.some.inj hk).symm
    have HD := Lib.hid hd; clear hd hk hm
    have h1 : (i : Int) < (n : Int) := by omega
    have h0 : (0 : Int) ≤ (i : Int) := by omega
    have hc' : ∀ o, (w.alloc o).cell? (ad.add i) = some (.int .i64 d) := fun o => by rw [World.cell?_alloc_lt w o _ (by rw [addr_block]; omega)]; exact hc
    go_enter Tryd.func88, Tryd.ntmps88
    go_wp2_with fail
    go_ret
    rw [HD.out]
    exact ⟨rfl, (Below.refl _ _).alloc (Nat.le_refl _) _⟩
  · have h1 : decide ((i : Int) < (n : Int)) = false := decide_eq_false (by omega)
    have h1' : decide (i < n) = false := decide_eq_false hi
    have HZ : Hid (dig x.natAbs i = 0) := Lib.hid (dig_beyond (by rw [hlen.out]; omega))
    go_enter Tryd.func88, Tryd.ntmps88
    go_wp2_with fail
    go_ret
    rw [HZ.out]
    exact ⟨rfl, (Below.refl _ _).alloc (Nat.le_refl _) _⟩

/-! ### trim -/
theorem ints_take {w : World} {B n m : Nat} {A : Option Addr} {l : List Int} (h : Ints w B A n l) (hm : m ≤ n) : Ints w B A m (l.take m) := by
  have hl := h.length
  refine ⟨⟨by rw [cellsI_length, List.length_take]; omega, fun h0 => ?_⟩, fun r hr => h.i64 r (List.mem_of_mem_take hr), by have := h.len; omega⟩
  obtain ⟨ad, e, hb, hc⟩ := h.rd.2 (by omega)
  refine ⟨ad, e, hb, fun j u hu => hc j u ?_⟩
  rw [← hu]
  have hj : j < m := by
    have := (List.getElem?_eq_some_iff.1 hu).1
    rw [cellsI_length, List.length_take] at this; omega
  rw [cellsI_get, cellsI_get, List.getElem?_take, if_pos hj]

theorem trim_any (B : Nat) (b : Bool) (A : Option Addr) (n c : Nat) (l : List Int) (w : World) (h : Ints w B A n l) (hB : B ≤ w.heap.size) (hc : n ≤ c) (hd : dOk l) :
    Calls Tryd.prog 66 #[.bool b, .slice A n c] w (NumSame w B A c (sgn b (val l))) := by
  have hn := h.len
  have hlen := Lib.hid h.length
  go_enter Tryd.func66, Tryd.ntmps66
  go_wp2_with fail
  go_loopw [5] (fun i wr => ∃ k : Nat, k ≤ n ∧ i = .int .i64 k ∧ Hid (val (l.take k) = val l) ∧ wr = w.alloc (.cells #[.bool false, .slice none 0 0] 72)) (fun i _ => (intOf i).toNat)
  case atStart => exact ⟨n, Nat.le_refl _, rfl, Lib.hid (by rw [List.take_of_length_le (by rw [hlen.out]; omega)]), rfl⟩
  case round =>
    obtain ⟨k, hk, rfl, hv, rfl⟩ := hrel
    have fin : ∀ k : Nat, k ≤ n → val (l.take k) = val l → (∀ d, (l.take k).getLast? = some d → d ≠ 0) → ∀ w' bb, bb = (b && decide (0 < (k : Int))) → Below w.heap.size w w' → NumSame w B A c (sgn b (val l)) (.returned (.agg #[.bool bb, .slice A k c])) w' := by
      rintro k hk hv hl w' bb rfl hb
      have hz := hb.size
      have e : digs (val l) = l.take k := by rw [← hv]; exact digs_val (fun d hd' => hd d (List.mem_of_mem_take hd')) hl
      have e2 : decide (0 < val l) = decide (0 < (k : Int)) := by
        have e3 : (digs (val l)).length = k := by rw [e, List.length_take, hlen.out]; omega
        by_cases h0 : val l = 0
        · rw [h0, digs_zero] at e3; simp at e3; rw [h0, ← e3]; rfl
        · rw [digs_pos h0] at e3
          simp at e3
          rw [decide_eq_true (by omega), decide_eq_true (by omega)]
      refine ⟨k, by rw [sgn_neg, e2], ⟨?_, by omega⟩, hb⟩
      rw [sgn_abs, e]
      exact (ints_take h hk).below hb hB
    have FIN := Lib.hid fin; clear fin
    rcases Nat.eq_zero_or_pos k with rfl | hk0
    · cases b
      all_goals
        go_wp2_with fail
        refine bodyPost_ret (v := .agg #[.bool _, .slice A 0 c]) (by simp [results, Tryd.results66, go_sem]; rfl) rfl ?_
        exact FIN.out 0 hk hv.out (by simp) _ _ (by simp) ((Below.refl _ _).alloc (Nat.le_refl _) _)
    · obtain ⟨m, rfl⟩ : ∃ m, k = m + 1 := ⟨k - 1, by omega⟩
      obtain ⟨ad, d, rfl, hb, hkx, hm, hcc, hlo, hhi⟩ := h.get (k := m) (by omega)
      have HK := Lib.hid hkx; clear hkx hm
      have hc' : ∀ o, (w.alloc o).cell? (ad.add m) = some (.int .i64 d) := fun o => by rw [World.cell?_alloc_lt w o _ (by rw [addr_block]; omega)]; exact hcc
      have f1 : decide ((0 : Int) < ((m + 1 : Nat) : Int)) = true := decide_eq_true (by omega)
      have f2 : (0 : Int) ≤ (m : Int) := by omega
      have f3 : (m : Int) < (n : Int) := by omega
      by_cases hd0 : d = 0
      · subst hd0
        go_wp2_with fail
        refine ⟨⟨m, by omega, rfl, Lib.hid ((val_take_zero HK.out).symm.trans hv.out), trivial⟩, ?_⟩
        simp only [intOf]; omega
      · have f4 : (d == 0) = false := beq_eq_false_iff_ne.2 hd0
        have HL : Hid (∀ d, (l.take (m + 1)).getLast? = some d → d ≠ 0) := Lib.hid fun y hy => by
          rw [take_snoc' _ _ _ HK.out, List.getLast?_append] at hy
          simp at hy
          omega
        cases b
        all_goals
          go_wp2_with fail
          refine bodyPost_ret (v := .agg #[.bool _, .slice (some ad) (m + 1) c]) (by simp [results, Tryd.results66, go_sem]; rfl) rfl ?_
          exact FIN.out (m + 1) hk hv.out HL.out _ _ (by simp) ((Below.refl _ _).alloc (Nat.le_refl _) _)

theorem size_int' : (Tryd.prog.info? 3).map (fun i => (i.zero, i.size, i.bytes)) = some (some (.int .i64 0), 1, 8) := by kernel_rfl
/-- the digits told so far, and what is left -/
def DigsAt (x : Int) (k : Nat) (out : List Int) (y : Int) : Prop :=
  out.length = k ∧ digs x.natAbs = out ++ digs y.natAbs ∧ (0 ≤ x → 0 ≤ y) ∧ (x < 0 → y ≤ 0) ∧ -9223372036854775808 ≤ y ∧ y ≤ 9223372036854775807
theorem DigsAt.step {x y : Int} {k : Nat} {out : List Int} (h : DigsAt x k out y) (hy : y ≠ 0) {d : Int} (hd : d = ((y.natAbs % 10 : Nat) : Int)) {z : Int} (hz : z = Int.tdiv y 10) : DigsAt x (k + 1) (out ++ [d]) z := by
  obtain ⟨h1, h2, h3, h4, h5, h6⟩ := h
  have e : z.natAbs = y.natAbs / 10 := by rw [hz]; exact Int.natAbs_tdiv y 10
  refine ⟨by simp [h1], ?_, ?_, ?_, ?_, ?_⟩
  · rw [h2, digs_pos (by omega), e, hd]; simp
  · intro hx; rw [hz]; exact Int.tdiv_nonneg (h3 hx) (by decide)
  · intro hx
    have h7 := h4 hx
    have h8 : y.tdiv 10 = -((-y).tdiv 10) := by rw [Int.neg_tdiv]; omega
    have h9 := Int.tdiv_nonneg (a := -y) (b := 10) (by omega) (by decide)
    omega
  · omega
  · omega

theorem own_ad {w : World} {base : Nat} {t : TypeId} {A : Option Addr} {n c : Nat} {xs : List Value} (h : w.ownsRow base t 1 (.slice A n c) n xs) : ∀ ad, A = some ad → 0 < n → base ≤ ad.block := by
  intro ad e h0
  obtain ⟨g, e', hg, _⟩ := own_cells h h0
  rw [e] at e'; injection e' with e'; subst e'; exact hg
theorem own_cap {w : World} {base : Nat} {t : TypeId} {size : Nat} {A : Option Addr} {n c : Nat} {xs : List Value} (h : w.ownsRow base t size (.slice A n c) n xs) : n ≤ c := by
  rcases h.2 with ⟨_, h0⟩ | ⟨g, cap, cur, hv, _, _, hc, _⟩
  · omega
  · injection hv with _ _ h3; omega

theorem ofint_any (x : Int) (B : Nat) (w : World) (bx : -9223372036854775808 ≤ x ∧ x ≤ 9223372036854775807) :
    Calls Tryd.prog 47 #[.int .i64 x] w (NumRes w B x) := by
  obtain ⟨i0, hi0, hz0, hz1, hz2⟩ := info_parts size_int'
  have hdl : Hid ((digs x.natAbs).length ≤ 19) := Lib.hid (digs_len_le (by omega))
  obtain ⟨bx1, bx2⟩ := bx
  go_enter Tryd.func47, Tryd.ntmps47
  obtain ⟨sb, hsb⟩ : ∃ sb, sb = decide (x < 0) := ⟨_, rfl⟩
  have hsb' := hsb.symm
  have HSB := Lib.hid hsb; clear hsb
  go_wp2_with fail
  go_loopw [0, 3] (fun i u wr => ∃ (k : Nat) (out : List Int) (y : Int), i = .int .i64 y ∧ wr.ownsRow (w.heap.size + 1) 3 1 u k (cellsI out) ∧ Hid (dOk out) ∧ Hid (DigsAt x k out y) ∧ Hid (Slot2 wr w.heap.size (.bool false) (.slice none 0 0)) ∧ Below w.heap.size w wr ∧ w.heap.size + 1 ≤ wr.heap.size) (fun i _ _ => (intOf i).natAbs)
  case atStart =>
    exact ⟨0, [], x, rfl, World.ownsRow_nil _ _ _ _, Lib.hid (by simp [dOk]), Lib.hid ⟨rfl, by simp, by omega, by omega, by omega, by omega⟩, Lib.hid (Slot2.new _ _ _ _), (Below.refl _ _).alloc (Nat.le_refl _) _, by simp⟩
  case round =>
    obtain ⟨k, out, y, rfl, hown, hdk, hda, hsl, hbk, hzk⟩ := hrel
    obtain ⟨_, hd2, hd3, hd4, hd5, hd6⟩ := hda.out
    have hk19 : k ≤ 19 := by
      have := congrArg List.length hd2
      have h2 := hdl.out
      have h3 := hda.out.1
      simp at this; omega
    clear hd2 hd3 hd4
    by_cases hy0 : y = 0
    · subst hy0
      obtain ⟨A', c', rfl⟩ := own_shape hown
      have hI := Ints.of_own hown (fun d hd => by have := hdk.out d hd; omega) (by omega)
      have HV : Hid (sgn sb (val out) = x) := Lib.hid (by
        obtain ⟨_, e, _⟩ := hda.out
        rw [show (0 : Int).natAbs = 0 from rfl, digs_zero, List.append_nil] at e
        rw [← e, val_digs, HSB.out, sgn_self])
      have HT := Lib.hid (trim_any wr.heap.size sb A' k c' out wr hI (Nat.le_refl _) (own_cap hown) hdk.out)
      rw [HV.out] at HT
      have HA := Lib.hid (own_ad hown)
      clear hI hown
      go_wp2_with fail
      refine HT.out.mono ?_
      intro e w1 h1
      obtain ⟨n1, rfl, hn1, hb1⟩ := h1
      have hn1k : Hid (∀ ad, A' = some ad → 0 < n1 → w.heap.size + 1 ≤ ad.block) := Lib.hid fun ad e h0 => HA.out ad e (by
        rcases Nat.eq_zero_or_pos k with rfl | hk
        · have := hn1.len
          have h5 := hda.out.2.1
          have h6 := hda.out.1
          obtain rfl := List.length_eq_zero_iff.1 h6
          simp [digs_zero] at h5
          rw [h5] at this
          simp at this; omega
        · exact hk)
      obtain ⟨q0, q1, z0, z1⟩ := hsl.out.below hb1 (by omega)
      have HB : Hid (Below w.heap.size w w1) := Lib.hid (hbk.trans (hb1.mono (by omega)))
      have hz1 : wr.heap.size ≤ w1.heap.size := hb1.size
      clear hb1
      rw [hsb']
      go_wp2_with fail
      refine bodyPost_ret (v := .agg #[.bool sb, .slice A' n1 c']) (by simp [results, Tryd.results47, go_sem, q0, q1]) rfl ?_
      refine ⟨A', n1, c', by rw [hsb'], ((hn1.set _ _ fun ad e h0 => ?_).set _ _ fun ad e h0 => ?_).more (by simpa using hz1), fun ad e h0 => .inr (by have := hn1k.out ad e h0; omega), (HB.out.setCell (by simp) _).setCell (by simp) _⟩
      all_goals
        have := hn1k.out ad e h0
        simp only
        omega
    · have t0 : (y != 0) = true := by simp; omega
      have hbk4 : ∀ j, u3.ownBlock = some j → w.heap.size + 1 ≤ j := fun j hj => (hown.lt j hj).1
      have n1 : (y.tdiv 10).natAbs = y.natAbs / 10 := Int.natAbs_tdiv y 10
      have n2 : (y.tmod 10).natAbs = y.natAbs % 10 := Int.natAbs_tmod y 10
      have N1 := Lib.hid n1; clear n1
      have N2 := Lib.hid n2; clear n2
      by_cases hneg : y.tmod 10 < 0
      · have t1 : decide (y.tmod 10 < 0) = true := decide_eq_true hneg
        have t2 : wrap64 (-y.tmod 10) = -y.tmod 10 := by have := N2.out; unfold wrap64; omega
        go_wp2_with (at_builtin; refine wpList_append_lies _ rfl (.tmp 16) (.tmp 18) _ rfl (w.heap.size + 1) 3 i0 _ 1 8 Tryd.underlying40 hi0 hz0 hz1 hz2 rfl (by decide) _ k (cellsI out) rfl (hown.alloc _) ⟨wr.heap.size, 0, none⟩ 1 1 [.int .i64 (-y.tmod 10)] rfl rfl (World.news_of_block (heap_alloc_new _ _)) (by simp [Value.oneCell']) (by decide) (by unfold maxLen; omega) (by omega) (by simp; omega) _ rfl ?_; intro g4 cap4 w4 hown4 hgr4 hat4 hlt4)
        have HB4 : Hid (Below w.heap.size w w4) := Lib.hid ((hbk.alloc (by omega) _).grown hgr4 (by simp; omega) (fun j hj => by have := hbk4 j hj; omega))
        go_roundw
        case rel =>
          have hdv : -y.tmod 10 = ((y.natAbs % 10 : Nat) : Int) := by have := N2.out; omega
          refine ⟨k + 1, out ++ [-y.tmod 10], y.tdiv 10, by go_num, by simpa [cellsI] using hown4, Lib.hid ?_, Lib.hid (hda.out.step hy0 hdv rfl), Lib.hid ?_, HB4.out, by have := hgr4.size; simp at this; omega⟩
          · intro d hd
            rcases List.mem_append.1 hd with hd | hd
            · exact hdk.out d hd
            · rw [List.mem_singleton.1 hd, hdv]; omega
          · exact hsl.out.below (((Below.refl (w.heap.size + 1) wr).alloc hzk _).grown hgr4 (by simp; omega) (fun j hj => by have := hbk4 j hj; omega)) (Nat.lt_succ_self _)
        case measure => simp only [intOf]; have := N1.out; omega
      · have t1 : decide (y.tmod 10 < 0) = false := decide_eq_false hneg
        go_wp2_with (at_builtin; refine wpList_append_lies _ rfl (.tmp 16) (.tmp 18) _ rfl (w.heap.size + 1) 3 i0 _ 1 8 Tryd.underlying40 hi0 hz0 hz1 hz2 rfl (by decide) _ k (cellsI out) rfl (hown.alloc _) ⟨wr.heap.size, 0, none⟩ 1 1 [.int .i64 (y.tmod 10)] rfl rfl (World.news_of_block (heap_alloc_new _ _)) (by simp [Value.oneCell']) (by decide) (by unfold maxLen; omega) (by omega) (by simp; omega) _ rfl ?_; intro g4 cap4 w4 hown4 hgr4 hat4 hlt4)
        have HB4 : Hid (Below w.heap.size w w4) := Lib.hid ((hbk.alloc (by omega) _).grown hgr4 (by simp; omega) (fun j hj => by have := hbk4 j hj; omega))
        go_roundw
        case rel =>
          have hdv : y.tmod 10 = ((y.natAbs % 10 : Nat) : Int) := by have := N2.out; omega
          refine ⟨k + 1, out ++ [y.tmod 10], y.tdiv 10, by go_num, by simpa [cellsI] using hown4, Lib.hid ?_, Lib.hid (hda.out.step hy0 hdv rfl), Lib.hid ?_, HB4.out, by have := hgr4.size; simp at this; omega⟩
          · intro d hd
            rcases List.mem_append.1 hd with hd | hd
            · exact hdk.out d hd
            · rw [List.mem_singleton.1 hd, hdv]; omega
          · exact hsl.out.below (((Below.refl (w.heap.size + 1) wr).alloc hzk _).grown hgr4 (by simp; omega) (fun j hj => by have := hbk4 j hj; omega)) (Nat.lt_succ_self _)
        case measure => simp only [intOf]; have := N1.out; omega
end Go.Proofs.YtkdffcoofijhkaaDoor
