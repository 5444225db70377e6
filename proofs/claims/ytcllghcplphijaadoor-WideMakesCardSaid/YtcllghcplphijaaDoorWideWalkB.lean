/-
  THE WALKS OF wide.halves, right, Of.
-/
import Derived.Test.YtcllghcplphijaaDoorWideWalkA
set_option linter.unusedVariables false
set_option linter.unusedSimpArgs false
namespace Go.Proofs.YtcllghcplphijaaDoor
open Go.RowKit

/-- two new variables -/
theorem two_slots (w : World) (cs1 cs2 : List Value) (a1 a2 : Array Value) (t1 t2 : TypeId) (h1 : a1 = cs1.toArray) (h2 : a2 = cs2.toArray) :
    SlotN ((w.alloc (.cells a1 t1)).alloc (.cells a2 t2)) w.heap.size cs1 ∧ SlotN ((w.alloc (.cells a1 t1)).alloc (.cells a2 t2)) (w.heap.size + 1) cs2 ∧
    Below w.heap.size w ((w.alloc (.cells a1 t1)).alloc (.cells a2 t2)) ∧ ((w.alloc (.cells a1 t1)).alloc (.cells a2 t2)).heap.size = w.heap.size + 2 := by
  have s1 := SlotN.new w cs1 a1 t1 h1
  have s2 := SlotN.new (w.alloc (.cells a1 t1)) cs2 a2 t2 h2
  have hz : (w.alloc (.cells a1 t1)).heap.size = w.heap.size + 1 := by simp
  refine ⟨s1.below ((Below.refl (w.heap.size + 1) _).alloc (by omega) _) (Nat.lt_succ_self _), by rw [hz] at s2; exact s2, ((Below.refl _ _).alloc (Nat.le_refl _) _).alloc (by omega) _, by simp⟩
/-- one new variable -/
theorem one_slot (w : World) (cs1 : List Value) (a1 : Array Value) (t1 : TypeId) (h1 : a1 = cs1.toArray) :
    SlotN (w.alloc (.cells a1 t1)) w.heap.size cs1 ∧ Below w.heap.size w (w.alloc (.cells a1 t1)) ∧ (w.alloc (.cells a1 t1)).heap.size = w.heap.size + 1 :=
  ⟨SlotN.new w cs1 a1 t1 h1, (Below.refl _ _).alloc (Nat.le_refl _) _, by simp⟩

/-- a Wide and an error's number are handed back -/
def PE (w : World) (r : Pt × Int) (e : Ending) (w' : World) : Prop := e = .returned (.tuple #[ptV r.1, .int .i64 r.2]) ∧ Below w.heap.size w w'

theorem halves_any (n : Int) (w : World) (hn : 0 ≤ n ∧ n ≤ 1000000000000000000) :
    Calls Tryd.prog 32 #[.int .i64 n] w fun e w' => e = .returned (.agg #[.int .i64 (n / 1000000000), .int .i64 (n % 1000000000)]) ∧ Below w.heap.size w w' := by
  obtain ⟨n1, n2⟩ := hn
  have td : n.tdiv 1000000000 = n / 1000000000 := Int.tdiv_eq_ediv_of_nonneg n1
  have tm : n.tmod 1000000000 = n % 1000000000 := Int.tmod_eq_emod_of_nonneg n1
  obtain ⟨q, hq⟩ : ∃ q, q = n / 1000000000 := ⟨_, rfl⟩
  obtain ⟨r, hr⟩ : ∃ r, r = n % 1000000000 := ⟨_, rfl⟩
  rw [← hq] at td ⊢
  rw [← hr] at tm ⊢
  have wd : IntKind.i64.wrap q = q := IntWalk.i64_in _ (by omega)
  have wm : IntKind.i64.wrap r = r := IntWalk.i64_in _ (by omega)
  clear hq hr
  go_enter Tryd.func32, Tryd.ntmps32
  go_wp2_with fail
  obtain ⟨s1, hb, hz⟩ := one_slot w [.int .i64 q, .int .i64 r] #[.int .i64 q, .int .i64 r] 54 rfl
  have c0 := s1.c 0 _ rfl
  have c1 := s1.c 1 _ rfl
  exact bodyPost_ret (v := .agg #[.int .i64 q, .int .i64 r]) (by simp [results, Tryd.results32, go_sem, c0, c1]) rfl ⟨rfl, hb⟩

theorem of_any (n : Int) (w : World) (hn : i64b n) :
    Calls Tryd.prog 18 #[.int .i64 n] w fun e w' => e = .returned (ptV (wOf n)) ∧ Below w.heap.size w w' := by
  unfold ptV wOf
  have HF := Lib.hid (fun W => floor_any n 1000000000000000000 W hn (by omega))
  generalize n / 1000000000000000000 = q at HF ⊢
  generalize n % 1000000000000000000 = r at HF ⊢
  obtain ⟨s1, hb, hz⟩ := one_slot w [.int .i64 0, .int .i64 0] #[.int .i64 0, .int .i64 0] 23 rfl
  go_enter Tryd.func18, Tryd.ntmps18
  go_wp2_with fail
  generalize hW : w.alloc (.cells #[.int .i64 0, .int .i64 0] 23) = W at s1 hb hz ⊢
  refine (HF.out W).mono ?_
  clear HF hW
  rintro e w1 ⟨rfl, hb1⟩
  have hb2 := hb.trans (hb1.mono (by omega))
  have s2 := s1.below hb1 (by omega)
  clear s1 hb hb1 hz
  have c0 := s2.c 0 _ rfl
  have c1 := s2.c 1 _ rfl
  have f0 := s2.f 0
  have f1 := s2.f 1
  have S2 := Lib.hid (s2.set2 (.int .i64 q) (.int .i64 r))
  have HB := Lib.hid hb2
  clear s2 hb2
  go_wp2_with fail
  obtain ⟨a0, a1⟩ := (⟨S2.out.c 0 _ rfl, S2.out.c 1 _ rfl⟩ : _ ∧ _)
  refine bodyPost_ret (v := .agg #[.int .i64 q, .int .i64 r]) (by simp [results, Tryd.results18, go_sem, a0, a1]) rfl ⟨rfl, ?_⟩
  exact (HB.out.setCell (by exact Nat.le_refl _) _).setCell (by exact Nat.le_refl _) _

def wRight (a : Pt) : Pt × Int := if wIs a then (a, 0) else (⟨0, 0⟩, 4)
theorem right_any (a : Pt) (w : World) (ha : a.b) : Calls Tryd.prog 43 #[ptV a] w (PE w (wRight a)) := by
  have HI := Lib.hid (fun W => is_any a W ha)
  obtain ⟨x, y⟩ := a
  unfold ptV at *
  unfold PE wRight ptV
  obtain ⟨s1, s2, hb, hz⟩ := two_slots w [.int .i64 x, .int .i64 y] [.int .i64 0, .int .i64 0] #[.int .i64 x, .int .i64 y] #[.int .i64 0, .int .i64 0] 23 23 rfl rfl
  cases hi : wIs ⟨x, y⟩ with
  | true =>
    rw [hi] at HI
    simp only [if_true]
    clear hi
    go_enter Tryd.func43, Tryd.ntmps43
    go_wp2_with fail
    generalize hW : (w.alloc (.cells #[.int .i64 x, .int .i64 y] 23)).alloc (.cells #[.int .i64 0, .int .i64 0] 23) = W at s1 s2 hb hz ⊢
    refine (HI.out W).mono ?_
    clear HI hW
    rintro e w1 ⟨rfl, hb1⟩
    have hb2 := hb.trans (hb1.mono (by omega))
    have r1 := s1.below hb1 (by omega)
    have r2 := s2.below hb1 (by omega)
    clear s1 s2 hb hb1 hz
    have c0 := r1.c 0 _ rfl
    have c1 := r1.c 1 _ rfl
    have d0 := r2.c 0 _ rfl
    have d1 := r2.c 1 _ rfl
    have f0 := r2.f 0
    have f1 := r2.f 1
    have S2 := Lib.hid (r2.set2 (.int .i64 x) (.int .i64 y))
    have HB := Lib.hid hb2
    clear r1 r2 hb2
    go_wp2_with fail
    obtain ⟨a0, a1⟩ := (⟨S2.out.c 0 _ rfl, S2.out.c 1 _ rfl⟩ : _ ∧ _)
    refine bodyPost_ret (v := .tuple #[.agg #[.int .i64 x, .int .i64 y], .int .i64 0]) (by simp [results, Tryd.results43, go_sem, a0, a1]) rfl ⟨rfl, ?_⟩
    exact (HB.out.setCell (by simp) _).setCell (by simp) _
  | false =>
    rw [hi] at HI
    simp only [Bool.false_eq_true, if_false]
    clear hi
    go_enter Tryd.func43, Tryd.ntmps43
    go_wp2_with fail
    generalize hW : (w.alloc (.cells #[.int .i64 x, .int .i64 y] 23)).alloc (.cells #[.int .i64 0, .int .i64 0] 23) = W at s1 s2 hb hz ⊢
    refine (HI.out W).mono ?_
    clear HI hW
    rintro e w1 ⟨rfl, hb1⟩
    have hb2 := hb.trans (hb1.mono (by omega))
    have r1 := s1.below hb1 (by omega)
    have r2 := s2.below hb1 (by omega)
    clear s1 s2 hb hb1 hz
    have c0 := r1.c 0 _ rfl
    have c1 := r1.c 1 _ rfl
    have d0 := r2.c 0 _ rfl
    have d1 := r2.c 1 _ rfl
    have f0 := r2.f 0
    have f1 := r2.f 1
    have S2 := Lib.hid (r2.set2 (.int .i64 0) (.int .i64 0))
    have HB := Lib.hid hb2
    clear r1 r2 hb2
    go_wp2_with fail
    obtain ⟨a0, a1⟩ := (⟨S2.out.c 0 _ rfl, S2.out.c 1 _ rfl⟩ : _ ∧ _)
    refine bodyPost_ret (v := .tuple #[.agg #[.int .i64 0, .int .i64 0], .int .i64 4]) (by simp [results, Tryd.results43, go_sem, a0, a1]) rfl ⟨rfl, ?_⟩
    exact (HB.out.setCell (by simp) _).setCell (by simp) _
end Go.Proofs.YtcllghcplphijaaDoor
