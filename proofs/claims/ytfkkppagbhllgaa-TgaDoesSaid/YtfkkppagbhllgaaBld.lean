/-
  A strings.Builder OF THE CALL's OWN: copyCheck, WriteByte, WriteString, Len, String at this seat (its copyCheck ends in a refusal where the shelf's body panics: the shelf's writers cannot be laid there).
-/
import Derived.Test.YtfkkppagbhllgaaTxt
import Derived.Test.YtfkkppagbhllgaaShelf
import Derived.Lib.FrozenHead2
import Derived.Lib.OthersKept
import Derived.RangeFuncOwn
set_option linter.unusedVariables false
set_option linter.unusedSimpArgs false
set_option maxRecDepth 100000
namespace Go.Proofs.Ytfkkppagbhllgaa
open Go.RowKit

/-- block b is a builder of the call's own (its memory from B on) that holds the bytes l -/
def Bld (w : World) (B b : Nat) (l : List UInt8) : Prop := Lib.IsBuilderF 52 5 B b (Lib.byteCells l) w
theorem size_bld : (Try.prog.info? 52).map (·.size) = some 2 := by kernel_rfl
theorem lies_bld : liesAt Try.prog Try.prog.depth 52 (2 / Try.prog.cellsOf 52) 0 52 1 = true := by kernel_rfl
theorem size_u8 : (Try.prog.info? 5).map (fun i => (i.zero, i.size, i.bytes)) = some (some (.int .u8 0), 1, 1) := by kernel_rfl
theorem Bld.new (w : World) (b B : Nat) (hb : b = w.heap.size) (hB : B ≤ b) : Bld (w.alloc (.cells #[.pointer none, .slice none 0 0] 52)) B b [] := by
  subst hb
  exact .inl ⟨hB, .slice none 0 0, heap_alloc_new w _, World.ownsRowF_nil _ _ _ _, by simp [Value.ownBlock]⟩

theorem cc_used (b : Nat) (w : World) (h0 : w.cell? ⟨b, 0, none⟩ = some (.pointer (some ⟨b, 0, none⟩))) :
    Calls Try.prog 54 #[.pointer (some ⟨b, 0, none⟩)] w fun e w' => e = .returned (.tuple #[]) ∧ w' = w := by
  obtain ⟨j, hj, _⟩ := Option.map_eq_some_iff.1 size_bld
  go_enter Try.func54, Try.ntmps54
  go_wp2
  rw [Lib.run_neq_ptr_same w _ Try.underlying50 hj]
  go_wp2
  go_end0
  exact ⟨rfl, rfl⟩
theorem cc_fresh (b : Nat) (w : World) (h0 : w.cell? ⟨b, 0, none⟩ = some (.pointer none)) (hsh : w.shape? b = some (52, 2)) (hfz : w.frozen? ⟨b, 0, none⟩ = false) :
    Calls Try.prog 54 #[.pointer (some ⟨b, 0, none⟩)] w fun e w' => e = .returned (.tuple #[]) ∧ w' = w.setCell ⟨b, 0, none⟩ (.pointer (some ⟨b, 0, none⟩)) := by
  obtain ⟨j, hj, hjs⟩ := Option.map_eq_some_iff.1 size_bld
  go_enter Try.func54, Try.ntmps54
  go_wp2
  rw [Lib.run_to_unsafe w ⟨b, 0, none⟩ Try.underlying50 Try.underlying102 hj (by rw [hjs]; decide) hsh (Nat.zero_lt_succ 1)]
  simp only [Result.andThen]
  rw [Oper.upon_value]
  go_wp2
  rw [run_callFunc_extern Try.func68 (by kernel_rfl) (by kernel_rfl) (by kernel_rfl) (e := Extern.AbiNoEscape.same) (by kernel_rfl)]
  rw [Lib.run_noEscape]
  simp only [Result.andThen]
  rw [Oper.upon_value]
  go_wp2
  rw [Lib.run_from_unsafe w ⟨b, 0, none⟩ Try.underlying102 Try.underlying50 hj hsh lies_bld]
  simp only [Result.andThen]
  rw [Oper.upon_value]
  go_wp2
  go_end0
  exact ⟨rfl, rfl⟩
theorem cc_any (B b : Nat) (bs : List Value) (w : World) (h : Lib.IsBuilderF 52 5 B b bs w) :
    Calls Try.prog 54 #[.pointer (some ⟨b, 0, none⟩)] w fun e w' => e = .returned (.tuple #[]) ∧
      Lib.BuilderAtF 52 5 B b (.pointer (some ⟨b, 0, none⟩)) bs w' ∧ Below B w w' ∧ Lib.OthersKept 5 (some b) w w' := by
  rcases h with h | h
  · refine (cc_fresh b w h.cell0 h.shape h.frozen0).mono ?_
    rintro e w' ⟨rfl, rfl⟩
    exact ⟨rfl, h.used _, (Below.refl B w).setCell (p := ⟨b, 0, none⟩) h.1 _, (Lib.OthersKept.refl _ _ w).setCell ⟨b, 0, none⟩ rfl _⟩
  · refine (cc_used b w h.cell0).mono ?_
    rintro e w' ⟨rfl, rfl⟩
    exact ⟨rfl, h, Below.refl B _, Lib.OthersKept.refl _ _ _⟩
/-- what a writing hands on -/
structure Wrote (w w' : World) (B b : Nat) (l : List UInt8) : Prop where
  is : Bld w' B b l
  below : Below B w w'
  others : Lib.OthersKept 5 (some b) w w'
theorem bytes_snoc (l : List UInt8) (c : UInt8) : Lib.byteCells (l ++ [c]) = Lib.byteCells l ++ [.int .u8 (c.toNat : Int)] := by simp [Lib.byteCells]
theorem bytes_app (l s : List UInt8) : Lib.byteCells (l ++ s) = Lib.byteCells l ++ Lib.strCells ⟨s.toArray⟩ := by simp [Lib.byteCells, Lib.strCells]
theorem bytes_len (l : List UInt8) : (Lib.byteCells l).length = l.length := by simp [Lib.byteCells]

set_option maxHeartbeats 2000000 in
theorem wbyte_any (B b : Nat) (l : List UInt8) (c : UInt8) (w : World) (h : Bld w B b l) (hlen : l.length ≤ 100000000000) (hBw : B ≤ w.heap.size) :
    Calls Try.prog 52 #[.pointer (some ⟨b, 0, none⟩), .int .u8 (c.toNat : Int)] w fun e w' => e = .returned .nilIface ∧ Wrote w w' B b (l ++ [c]) := by
  obtain ⟨i0, hi, hz0, hz1, hz2⟩ := info_parts size_u8
  have hlen : (Lib.byteCells l).length ≤ 100000000000 := by rw [bytes_len]; exact hlen
  have FIN : Hid (∀ w', Bld w' B b (l ++ [c]) → Below B w w' → Lib.OthersKept 5 (some b) w w' → Wrote w w' B b (l ++ [c])) := Lib.hid fun w' h1 h2 h3 => ⟨h1, h2, h3⟩
  unfold Bld at *
  rw [bytes_snoc] at FIN
  generalize hQ : Wrote w = Qp at FIN ⊢
  clear hQ
  have hc0 : (0 : Int) ≤ (c.toNat : Int) ∧ (c.toNat : Int) ≤ 255 := by have := c.toNat_lt; omega
  have K := Lib.hid (cc_any B b _ w h)
  clear h
  generalize (c.toNat : Int) = x at *
  generalize Lib.byteCells l = bs at *
  go_enter Try.func52, Try.ntmps52
  go_wp2_with fail
  refine K.out.mono ?_
  clear K
  rintro e w1 ⟨rfl, h1, hb1, hk1⟩
  obtain ⟨hB, v, hbk, hown, hne⟩ := h1
  have c0 : w1.cell? ⟨b, 0, none⟩ = some (.pointer (some ⟨b, 0, none⟩)) := by rw [Lib.cell_of_heap hbk]; rfl
  have c1 : w1.cell? ⟨b, 1, none⟩ = some v := by rw [Lib.cell_of_heap hbk]; rfl
  go_wp2_with (at_builtin; refine wpList_append_ownF _ rfl _ _ 22 rfl B 5 i0 (.int .u8 0) 1 1 Try.underlying22 hi hz0 hz1 hz2 rfl (by decide) _ _ _ rfl (hown.alloc _) ⟨w1.heap.size, 0, none⟩ 1 1 [.int .u8 x] rfl rfl ?c1 ?c2 ?c3 ?c4 ?c5 ?_)
  case c1 =>
    intro j u hj
    match j, hj with
    | 0, hj => simp at hj; subst hj; simp [Addr.add]
  case c2 => intro u hu; simp at hu; subst hu; rfl
  case c3 => unfold maxLen; omega
  case c4 => omega
  case c5 => have := hb1.size; simp; omega
  intro v' w2 hown' hgrow _
  have hlt : b < w1.heap.size := (Array.getElem?_eq_some_iff.1 hbk).1
  have hb2 : w2.heap[b]? = some (.cells #[.pointer (some ⟨b, 0, none⟩), v] 52 (0, 0)) := by
    rw [hgrow.block b (by simp; omega) (fun e => hne e.symm), Lib.alloc_old w1 _ b hlt]
    exact hbk
  have d0 : w2.cell? ⟨b, 0, none⟩ = some (.pointer (some ⟨b, 0, none⟩)) := by rw [Lib.cell_of_heap hb2]; rfl
  have d1 : w2.cell? ⟨b, 1, none⟩ = some v := by rw [Lib.cell_of_heap hb2]; rfl
  have f1 : w2.frozen? ⟨b, 1, none⟩ = false := Lib.frozen_of_heap hb2 1
  obtain ⟨g, cap, rfl⟩ : ∃ g cap, v' = .slice (some ⟨g, 0, none⟩) (bs.length + 1) cap := by
    rcases hown'.2 with ⟨_, h0⟩ | ⟨g, cap, cur, fz, hv, _⟩
    · omega
    · exact ⟨g, cap, hv⟩
  go_wp2_with fail
  go_ret
  refine ⟨rfl, FIN.out _ ?_ ?_ (((hk1.alloc _).grown hgrow (Lib.ownsRowF_kind (hown.alloc _))).setCell ⟨b, 1, none⟩ rfl _)⟩
  · exact .inr (Lib.BuilderAtF.put hB hb2 (bs' := bs ++ [.int .u8 x]) (by simpa using hown') (by decide))
  · exact ((hb1.alloc (by have := hb1.size; omega) _).grown hgrow (by have := hb1.size; simp; omega) (fun k hk => (hown.lt k hk).1)).setCell (p := ⟨b, 1, none⟩) hB _

set_option maxHeartbeats 2000000 in
theorem wstr_any (B b : Nat) (l s : List UInt8) (w : World) (h : Bld w B b l) (hlen : l.length + s.length ≤ 100000000000) (hBw : B ≤ w.heap.size) :
    Calls Try.prog 30 #[.pointer (some ⟨b, 0, none⟩), .string ⟨s.toArray⟩] w fun e w' => e = .returned (.tuple #[.int .i64 (s.length : Int), .nilIface]) ∧ Wrote w w' B b (l ++ s) := by
  obtain ⟨i0, hi, hz0, hz1, hz2⟩ := info_parts size_u8
  have hlen : (Lib.byteCells l).length + s.length ≤ 100000000000 := by rw [bytes_len]; exact hlen
  have FIN : Hid (∀ w', Bld w' B b (l ++ s) → Below B w w' → Lib.OthersKept 5 (some b) w w' → Wrote w w' B b (l ++ s)) := Lib.hid fun w' h1 h2 h3 => ⟨h1, h2, h3⟩
  unfold Bld at *
  rw [bytes_app] at FIN
  generalize hQ : Wrote w = Qp at FIN ⊢
  clear hQ
  have K := Lib.hid (cc_any B b _ w h)
  clear h
  have hss : (⟨s.toArray⟩ : ByteArray).size = s.length := by simp [ByteArray.size]
  rw [← hss] at hlen ⊢
  clear hss
  generalize (⟨s.toArray⟩ : ByteArray) = S at *
  generalize Lib.byteCells l = bs at *
  go_enter Try.func30, Try.ntmps30
  go_wp2_with fail
  refine K.out.mono ?_
  clear K
  rintro e w1 ⟨rfl, h1, hb1, hk1⟩
  obtain ⟨hB, v, hbk, hown, hne⟩ := h1
  have c0 : w1.cell? ⟨b, 0, none⟩ = some (.pointer (some ⟨b, 0, none⟩)) := by rw [Lib.cell_of_heap hbk]; rfl
  have c1 : w1.cell? ⟨b, 1, none⟩ = some v := by rw [Lib.cell_of_heap hbk]; rfl
  go_wp2_with (at_builtin; refine Lib.wpList_append_own_stringF _ rfl _ _ 22 9 rfl B 5 i0 Try.underlying22 Try.underlying9 hi hz0 hz1 hz2 _ _ _ rfl hown S rfl ?c3 ?c4 ?c5 ?_)
  case c3 => unfold maxLen; omega
  case c4 => omega
  case c5 => have := hb1.size; omega
  intro v' w2 hown' hgrow _
  have hlt : b < w1.heap.size := (Array.getElem?_eq_some_iff.1 hbk).1
  have hb2 : w2.heap[b]? = some (.cells #[.pointer (some ⟨b, 0, none⟩), v] 52 (0, 0)) := by
    rw [hgrow.block b hlt (fun e => hne e.symm)]
    exact hbk
  have d0 : w2.cell? ⟨b, 0, none⟩ = some (.pointer (some ⟨b, 0, none⟩)) := by rw [Lib.cell_of_heap hb2]; rfl
  have d1 : w2.cell? ⟨b, 1, none⟩ = some v := by rw [Lib.cell_of_heap hb2]; rfl
  have f1 : w2.frozen? ⟨b, 1, none⟩ = false := Lib.frozen_of_heap hb2 1
  obtain ⟨ao, n', cap, rfl⟩ : ∃ ao n' cap, v' = .slice ao n' cap := by
    rcases hown'.2 with ⟨hv, _⟩ | ⟨g, cap, cur, fz, hv, _⟩
    · exact ⟨_, _, _, hv⟩
    · exact ⟨_, _, _, hv⟩
  go_wp2_with fail
  go_ret2
  refine ⟨rfl, FIN.out _ ?_ ?_ ((hk1.grown hgrow (Lib.ownsRowF_kind hown)).setCell ⟨b, 1, none⟩ rfl _)⟩
  · exact .inr (Lib.BuilderAtF.put hB hb2 (bs' := bs ++ Lib.strCells S) (by simpa [Lib.strCells_length] using hown') (by decide))
  · exact (hb1.grown hgrow (by have := hb1.size; omega) (fun k hk => (hown.lt k hk).1)).setCell (p := ⟨b, 1, none⟩) hB _
theorem blen_any (B b : Nat) (l : List UInt8) (w : World) (h : Bld w B b l) : Calls Try.prog 63 #[.pointer (some ⟨b, 0, none⟩)] w fun e w' => e = .returned (.int .i64 (l.length : Int)) ∧ w' = w := by
  have := Try.Builder_Len_f B b _ w h
  rwa [bytes_len] at this
theorem btext_any (B b : Nat) (l : List UInt8) (w : World) (h : Bld w B b l) (hBw : B ≤ w.heap.size) : Calls Try.prog 34 #[.pointer (some ⟨b, 0, none⟩)] w fun e w' => e = .returned (.string ⟨l.toArray⟩) ∧ Wrote w w' B b l :=
  (Try.Builder_String_any_k B b l w h hBw).mono fun e w' h => ⟨h.1, h.2.1, h.2.2.1, h.2.2.2⟩
/-- a builder stays one where blocks that hold no cells turn -/
theorem Bld.own {w w' : World} {B b : Nat} {l : List UInt8} {row : Option Nat} (h : Bld w B b l) (hg : w.grownBy w' row) (hr : ∀ r, row = some r → ∃ o : Obj, w.heap[r]? = some o ∧ o.isCells = false) : Bld w' B b l := by
  have key : ∀ p, Lib.BuilderAtF 52 5 B b p (Lib.byteCells l) w → Lib.BuilderAtF 52 5 B b p (Lib.byteCells l) w' := by
    rintro p ⟨hB, v, hb, hown, hne⟩
    refine ⟨hB, v, ?_, hown.kept hg ?_, hne⟩
    · rw [hg.block b (Array.getElem?_eq_some_iff.1 hb).1 (fun e => by obtain ⟨o, ho, hc⟩ := hr b e.symm; rw [hb] at ho; cases ho; cases hc)]; exact hb
    · cases hv : v.ownBlock with
      | none => exact .inl rfl
      | some g =>
        refine .inr fun e => ?_
        obtain ⟨o, ho, hc⟩ := hr g e.symm
        rcases hown.2 with ⟨rfl, _⟩ | ⟨g', cap, cur, fz, rfl, _, hgg, _⟩
        · simp [Value.ownBlock] at hv
        · simp only [Value.ownBlock, Option.some.injEq] at hv
          subst hv
          rw [hgg] at ho; cases ho; cases hc
  exact h.elim (fun h => .inl (key _ h)) (fun h => .inr (key _ h))
theorem Bld.drew {w : World} {B b : Nat} {l : List UInt8} (h : Bld w B b l) : Bld w.drew B b l := h
theorem Bld.grown {w w' : World} {B b : Nat} {l : List UInt8} (h : Bld w B b l) (hb : Below w.heap.size w w') : Bld w' B b l :=
  h.own (row := none) ⟨hb.os, hb.tape, hb.output, hb.size, fun k hk _ => hb.block k hk⟩ (fun r e => by cases e)
theorem Bld.lt {w : World} {B b : Nat} {l : List UInt8} (h : Bld w B b l) : b < w.heap.size ∧ ∃ cs t fr, w.heap[b]? = some (.cells cs t fr) := by
  rcases h with h | h <;> (obtain ⟨_, v, hb, _⟩ := h; exact ⟨(Array.getElem?_eq_some_iff.1 hb).1, _, _, _, hb⟩)
/-- what is no cells stays -/
theorem others_plain {w w' : World} {B b : Nat} {l : List UInt8} (h : Bld w B b l) (hk : Lib.OthersKept 5 (some b) w w') {k : Nat} {o : Obj} (h1 : w.heap[k]? = some o) (h2 : o.isCells = false) : w'.heap[k]? = some o := by
  obtain ⟨_, cs, t, fr, hb⟩ := h.lt
  refine hk k o h1 (fun e => ?_) (fun c fz e => ?_)
  · injection e with e; subst e; rw [hb] at h1; cases h1; cases h2
  · subst e; cases h2
end Go.Proofs.Ytfkkppagbhllgaa
