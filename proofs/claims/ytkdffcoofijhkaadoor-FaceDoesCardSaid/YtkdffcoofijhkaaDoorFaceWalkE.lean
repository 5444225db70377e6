/-
  THE STEPS OF face.Corner.
-/
import Derived.Test.YtkdffcoofijhkaaDoorFaceWalkD
set_option linter.unusedVariables false
set_option linter.unusedSimpArgs false
set_option maxRecDepth 8000
namespace Go.Proofs.YtkdffcoofijhkaaDoor
open Go.RowKit

theorem makes_func : ∀ (fn : Fn) (first cap : Array Value) (w : World), (Instr.makeFunc fn first cap).run Tryd.prog w = .ok (.func fn first cap) w := fun _ _ _ _ => rfl
/-- a corner and an error's number are handed back -/
def CornerRes (r : P3 × Int) (w : World) (e : Ending) (w' : World) : Prop := e = .returned (.tuple #[p3V r.1, .int .i64 r.2]) ∧ Below w.heap.size w w'
set_option maxHeartbeats 1600000 in
theorem corner_good (l : List UInt8) (m : P3) (w : World) (hl : l.length ≤ 100000) (hE : Env w) (hm : m.bd) (h : (cornerR l m).2 = 0) : Calls Tryd.prog 17 #[.string ⟨l.toArray⟩, .int .i64 m.a, .int .i64 m.b, .int .i64 m.c] w (CornerRes (cornerR l m) w) := by
  have K := Lib.hid (fun W hW => read_any l m W hl hW hm)
  have HE := Lib.hid hE; clear hE
  obtain ⟨⟨x0, x1, x2⟩, er, hr⟩ : ∃ c e, cornerR l m = (c, e) := ⟨_, _, rfl⟩
  rw [hr] at h K ⊢
  simp only at h
  subst h
  clear hr hm
  obtain ⟨m0, m1, m2⟩ := m
  unfold CornerRes
  unfold ReadRes p3V at *
  simp only [if_true] at K ⊢
  have hmf := makes_func
  have hc0 := SlotN.new w [.int .i64 0, .int .i64 0, .int .i64 0] #[.int .i64 0, .int .i64 0, .int .i64 0] 26 rfl
  have he0 := SlotN.new (w.alloc (.cells #[.int .i64 0, .int .i64 0, .int .i64 0] 26)) [.int .i64 0] #[.int .i64 0] 32 rfl
  have hb1 : Below (w.heap.size + 1) (w.alloc (.cells #[.int .i64 0, .int .i64 0, .int .i64 0] 26)) ((w.alloc (.cells #[.int .i64 0, .int .i64 0, .int .i64 0] 26)).alloc (.cells #[.int .i64 0] 32)) := (Below.refl _ _).alloc (by simp) _
  have hc1 := hc0.below hb1 (by omega)
  rw [World.size_alloc] at he0
  have hb0 : Below w.heap.size w ((w.alloc (.cells #[.int .i64 0, .int .i64 0, .int .i64 0] 26)).alloc (.cells #[.int .i64 0] 32)) := ((Below.refl _ _).alloc (Nat.le_refl _) _).alloc (by simp) _
  have hz0 : ((w.alloc (.cells #[.int .i64 0, .int .i64 0, .int .i64 0] 26)).alloc (.cells #[.int .i64 0] 32)).heap.size = w.heap.size + 2 := by simp
  clear hc0 hb1
  go_enter_defers Tryd.func17, Tryd.ntmps17
  go_wp2_with fail
  generalize (w.alloc (.cells #[.int .i64 0, .int .i64 0, .int .i64 0] 26)).alloc (.cells #[.int .i64 0] 32) = W0 at hb0 hz0 hc1 he0 ⊢
  have HB := Lib.hid hb0; clear hb0
  refine (K.out _ (HE.out.on HB.out)).mono ?_
  clear K
  rintro e w1 ⟨rfl, hb1⟩
  have hc := hc1.below hb1 (by omega)
  have he := he0.below hb1 (by omega)
  have HB := Lib.hid (HB.out.trans (hb1.mono HB.out.size))
  clear hb1 hc1 he0 hz0
  have d0 := hc.c 0 _ rfl
  have d1 := hc.c 1 _ rfl
  have d2 := hc.c 2 _ rfl
  have f0 := hc.f 0
  have f1 := hc.f 1
  have f2 := hc.f 2
  have d3 := he.c 0 _ rfl
  have f3 := he.f 0
  clear hc he
  go_wp2_with fail
  refine leaves_cons (f := 38) (args := #[.pointer (some ⟨w.heap.size + 1, 0, none⟩), .func (.func 41) #[] #[.pointer (some ⟨w.heap.size, 0, none⟩)]]) (by simp) (by simp [go_sem]) ?_
  refine (caught_idle _ _ _).mono ?_
  rintro e u' w'' ⟨rfl, rfl, rfl⟩
  refine ⟨.tuple #[.agg #[.int .i64 x0, .int .i64 x1, .int .i64 x2], .int .i64 0], ?_, rfl, ?_⟩
  · simp [results, Tryd.results17, go_sem, d0, d1, d2, d3]
  · exact (((HB.out.setCell (p := ⟨w.heap.size, 0, none⟩) (by simp) _).setCell (p := ⟨w.heap.size, 1, none⟩) (by simp) _).setCell (p := ⟨w.heap.size, 2, none⟩) (by simp) _).setCell (p := ⟨w.heap.size + 1, 0, none⟩) (by simp) _
set_option maxHeartbeats 1600000 in
theorem corner_bad (l : List UInt8) (m : P3) (w : World) (hl : l.length ≤ 100000) (hE : Env w) (hm : m.bd) (h : (cornerR l m).2 ≠ 0) : Calls Tryd.prog 17 #[.string ⟨l.toArray⟩, .int .i64 m.a, .int .i64 m.b, .int .i64 m.c] w (CornerRes (cornerR l m) w) := by
  have K := Lib.hid (fun W hW => read_any l m W hl hW hm)
  have HE := Lib.hid hE; clear hE
  have hz9 : (cornerR l m).1 = ⟨0, 0, 0⟩ := by
    unfold cornerR readR at h ⊢
    split
    · split
      · rfl
      · split
        · rfl
        · split
          · rfl
          · rename_i g1 g2 g3 g4
            rw [if_pos g1, if_neg g2, if_neg g3, if_neg g4] at h
            exact absurd rfl h
    · rfl
  obtain ⟨⟨x0, x1, x2⟩, er, hr⟩ : ∃ c e, cornerR l m = (c, e) := ⟨_, _, rfl⟩
  rw [hr] at h K hz9 ⊢
  simp only [P3.mk.injEq] at h hz9
  obtain ⟨rfl, rfl, rfl⟩ := hz9
  clear hr hm
  obtain ⟨m0, m1, m2⟩ := m
  unfold CornerRes
  unfold ReadRes p3V Thrown at *
  simp only [if_neg h] at K ⊢
  clear h
  have hmf := makes_func
  have hc0 := SlotN.new w [.int .i64 0, .int .i64 0, .int .i64 0] #[.int .i64 0, .int .i64 0, .int .i64 0] 26 rfl
  have he0 := SlotN.new (w.alloc (.cells #[.int .i64 0, .int .i64 0, .int .i64 0] 26)) [.int .i64 0] #[.int .i64 0] 32 rfl
  have hb1 : Below (w.heap.size + 1) (w.alloc (.cells #[.int .i64 0, .int .i64 0, .int .i64 0] 26)) ((w.alloc (.cells #[.int .i64 0, .int .i64 0, .int .i64 0] 26)).alloc (.cells #[.int .i64 0] 32)) := (Below.refl _ _).alloc (by simp) _
  have hc1 := hc0.below hb1 (by omega)
  rw [World.size_alloc] at he0
  have hb0 : Below w.heap.size w ((w.alloc (.cells #[.int .i64 0, .int .i64 0, .int .i64 0] 26)).alloc (.cells #[.int .i64 0] 32)) := ((Below.refl _ _).alloc (Nat.le_refl _) _).alloc (by simp) _
  have hz0 : ((w.alloc (.cells #[.int .i64 0, .int .i64 0, .int .i64 0] 26)).alloc (.cells #[.int .i64 0] 32)).heap.size = w.heap.size + 2 := by simp
  clear hc0 hb1
  go_enter_defers Tryd.func17, Tryd.ntmps17
  go_wp2_with fail
  generalize (w.alloc (.cells #[.int .i64 0, .int .i64 0, .int .i64 0] 26)).alloc (.cells #[.int .i64 0] 32) = W0 at hb0 hz0 hc1 he0 ⊢
  have HB := Lib.hid hb0; clear hb0
  refine (K.out _ (HE.out.on HB.out)).mono ?_
  clear K
  rintro e w1 ⟨rfl, hb1⟩
  have hc := hc1.below hb1 (by omega)
  have he := he0.below hb1 (by omega)
  have HB := Lib.hid (HB.out.trans (hb1.mono HB.out.size))
  clear hb1 hc1 he0 hz0
  have hHC := Lib.hid hc
  have hHE := Lib.hid he
  clear hc he
  go_wp2_with fail
  have hbE : Below (w.heap.size + 1) w1 (w1.setCell ⟨w.heap.size + 1, 0, none⟩ (.int .i64 er)) := (Below.refl _ _).setCell (p := ⟨w.heap.size + 1, 0, none⟩) (Nat.le_refl _) _
  have hc3 := hHC.out.below hbE (by omega)
  have d0 := hc3.c 0 _ rfl
  have d1 := hc3.c 1 _ rfl
  have d2 := hc3.c 2 _ rfl
  have d3 : (w1.setCell ⟨w.heap.size + 1, 0, none⟩ (.int .i64 er)).cell? ⟨w.heap.size + 1, 0, none⟩ = some (.int .i64 er) := World.cell?_setCell_same' _ _ _ (by rw [hHE.out.c 0 _ rfl]; rfl)
  refine leaves_cons (f := 38) (args := #[.pointer (some ⟨w.heap.size + 1, 0, none⟩), .func (.func 41) #[] #[.pointer (some ⟨w.heap.size, 0, none⟩)]]) (by simp) (by simp [go_sem]) ?_
  refine (caught_c (w.heap.size + 1) w.heap.size er [] w1 _ (.int .i64 0) (hHE.out.c 0 _ rfl) (hHE.out.f 0) (clear1 w.heap.size _ _ _ _ hc3)).mono ?_
  rintro e u' w'' ⟨rfl, rfl, rfl⟩
  refine ⟨.tuple #[.agg #[.int .i64 0, .int .i64 0, .int .i64 0], .int .i64 er], ?_, rfl, ?_⟩
  · generalize w1.setCell ⟨w.heap.size + 1, 0, none⟩ (.int .i64 er) = V at *
    simp [results, Tryd.results17, go_sem, d0, d1, d2, d3]
  · exact (((HB.out.setCell (p := ⟨w.heap.size + 1, 0, none⟩) (by simp) _).setCell (p := ⟨w.heap.size, 0, none⟩) (by simp) _).setCell (p := ⟨w.heap.size, 1, none⟩) (by simp) _).setCell (p := ⟨w.heap.size, 2, none⟩) (by simp) _
theorem corner_any (l : List UInt8) (m : P3) (w : World) (hl : l.length ≤ 100000) (hE : Env w) (hm : m.bd) : Calls Tryd.prog 17 #[.string ⟨l.toArray⟩, .int .i64 m.a, .int .i64 m.b, .int .i64 m.c] w (CornerRes (cornerR l m) w) := by
  by_cases h : (cornerR l m).2 = 0
  · exact corner_good l m w hl hE hm h
  · exact corner_bad l m w hl hE hm h
end Go.Proofs.YtkdffcoofijhkaaDoor
