/-
  THE STEPS OF face.caught, Corner.
-/
import Derived.Test.YtkdffcoofijhkaaDoorFaceWalkC
import Derived.Defers
import Derived.Recover
import Derived.Laws.Pointers
import Derived.Laws.EntriesVeiled
set_option linter.unusedVariables false
set_option linter.unusedSimpArgs false
set_option maxRecDepth 8000
namespace Go.Proofs.YtkdffcoofijhkaaDoor
open Go.RowKit

theorem clear1 (g : Nat) (a b c : Value) (w : World) (h : SlotN w g [a, b, c]) : Calls Tryd.prog 41 #[.pointer (some ⟨g, 0, none⟩)] w fun e w' =>
    e = .returned (.tuple #[]) ∧ w' = ((w.setCell ⟨g, 0, none⟩ (.int .i64 0)).setCell ⟨g, 1, none⟩ (.int .i64 0)).setCell ⟨g, 2, none⟩ (.int .i64 0) := by
  have d0 := h.c 0 _ rfl
  have d1 := h.c 1 _ rfl
  have d2 := h.c 2 _ rfl
  have f0 := h.f 0
  have f1 := h.f 1
  have f2 := h.f 2
  go_enter Tryd.func41, Tryd.ntmps41
  go_wp2_with fail
  go_end0
  exact ⟨rfl, rfl⟩
theorem assert_nil (W : World) : (Instr.typeAssert .nilIface 20 32 true).run Tryd.prog W = .ok (.tuple #[.int .i64 0, .bool false]) W := by kernel_rfl
theorem assert_err (z : Int) (W : World) : (Instr.typeAssert (.iface 32 (.int .i64 z)) 20 32 true).run Tryd.prog W = .ok (.tuple #[.int .i64 z, .bool true]) W := by kernel_rfl
theorem caught_idle (p : Value) (q : Value) (w : World) : CallsD Tryd.prog 38 #[p, q] .returning w fun e u' w' => e = .returned (.tuple #[]) ∧ u' = .returning ∧ w' = w := by
  refine callsD_of_wpS Tryd.func38 rfl fun c₀ cs hu => ?_
  simp only [Tryd.ntmps38, List.size_toArray, List.length_cons, List.length_nil, Nat.reduceAdd, Nat.reduceSub, Array.replicate_succ, Array.replicate_zero, List.push_toArray, List.append_toArray, List.nil_append, List.cons_append]
  apply wpS_seq
  apply wpS_region
  have ha := assert_nil
  have hb := assert_err
  simp [wpOpsS, go_sem, recoverD, hu, ha, hb, Tryd.ntmps38, Exit.thenS]
  refine wpS_of_wp ?_
  go_wp2_with fail
  cases c₀
  simp_all [bodyPostS, results, Tryd.results38]
theorem caught_c (g g2 : Nat) (z : Int) (older : List PanicEntry) (w w1 : World) (x : Value) (hx : w.cell? ⟨g, 0, none⟩ = some x) (hf : w.frozen? ⟨g, 0, none⟩ = false)
    (hC : Calls Tryd.prog 41 #[.pointer (some ⟨g2, 0, none⟩)] (w.setCell ⟨g, 0, none⟩ (.int .i64 z)) fun e w' => e = .returned (.tuple #[]) ∧ w' = w1) :
    CallsD Tryd.prog 38 #[.pointer (some ⟨g, 0, none⟩), .func (.func 41) #[] #[.pointer (some ⟨g2, 0, none⟩)]] (.panicking ({ v := .iface 32 (.int .i64 z), recovered := false } :: older)) w fun e u' w' => e = .returned (.tuple #[]) ∧ u' = .panicking ({ v := .iface 32 (.int .i64 z), recovered := true } :: older) ∧ w' = w1 := by
  refine callsD_of_wpS Tryd.func38 rfl fun c₀ cs hu => ?_
  simp only [Tryd.ntmps38, List.size_toArray, List.length_cons, List.length_nil, Nat.reduceAdd, Nat.reduceSub, Array.replicate_succ, Array.replicate_zero, List.push_toArray, List.append_toArray, List.nil_append, List.cons_append]
  apply wpS_seq
  apply wpS_region
  have ha := assert_nil
  have hb := assert_err
  simp [wpOpsS, go_sem, recoverD, hu, ha, hb, Tryd.ntmps38, Exit.thenS]
  clear ha hb
  have HU := Lib.hid hu; clear hu
  refine wpS_of_wp ?_
  go_wp2_with fail
  refine hC.mono ?_
  clear hC
  rintro e w2 ⟨rfl, rfl⟩
  go_wp2_with fail
  have hu := HU.out
  cases c₀
  simp_all [bodyPostS, results, Tryd.results38]
theorem caught_f (g g2 : Nat) (z : Int) (older : List PanicEntry) (w w1 : World) (x : Value) (hx : w.cell? ⟨g, 0, none⟩ = some x) (hf : w.frozen? ⟨g, 0, none⟩ = false)
    (hC : Calls Tryd.prog 39 #[.pointer (some ⟨g2, 0, none⟩)] (w.setCell ⟨g, 0, none⟩ (.int .i64 z)) fun e w' => e = .returned (.tuple #[]) ∧ w' = w1) :
    CallsD Tryd.prog 38 #[.pointer (some ⟨g, 0, none⟩), .func (.func 39) #[] #[.pointer (some ⟨g2, 0, none⟩)]] (.panicking ({ v := .iface 32 (.int .i64 z), recovered := false } :: older)) w fun e u' w' => e = .returned (.tuple #[]) ∧ u' = .panicking ({ v := .iface 32 (.int .i64 z), recovered := true } :: older) ∧ w' = w1 := by
  refine callsD_of_wpS Tryd.func38 rfl fun c₀ cs hu => ?_
  simp only [Tryd.ntmps38, List.size_toArray, List.length_cons, List.length_nil, Nat.reduceAdd, Nat.reduceSub, Array.replicate_succ, Array.replicate_zero, List.push_toArray, List.append_toArray, List.nil_append, List.cons_append]
  apply wpS_seq
  apply wpS_region
  have ha := assert_nil
  have hb := assert_err
  simp [wpOpsS, go_sem, recoverD, hu, ha, hb, Tryd.ntmps38, Exit.thenS]
  clear ha hb
  have HU := Lib.hid hu; clear hu
  refine wpS_of_wp ?_
  go_wp2_with fail
  refine hC.mono ?_
  clear hC
  rintro e w2 ⟨rfl, rfl⟩
  go_wp2_with fail
  have hu := HU.out
  cases c₀
  simp_all [bodyPostS, results, Tryd.results38]
end Go.Proofs.YtkdffcoofijhkaaDoor
