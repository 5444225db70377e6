/-
  THE STEPS OF tga.caught, Unpack.
-/
import Derived.Test.YtfkkppagbhllgaaTgaWalkF
import Derived.Defers
import Derived.Recover
import Derived.Laws.Pointers
import Derived.Laws.EntriesVeiled
set_option linter.unusedVariables false
set_option linter.unusedSimpArgs false
set_option maxRecDepth 8000
namespace Go.Proofs.Ytfkkppagbhllgaa
open Go.RowKit

theorem clearU (g g2 : Nat) (a b : Value) (w : World) (h : SlotN w g [a]) (h2 : SlotN w g2 [b]) (hne : g ≠ g2) : Calls Try.prog 43 #[.pointer (some ⟨g, 0, none⟩), .pointer (some ⟨g2, 0, none⟩)] w fun e w' =>
    e = .returned (.tuple #[]) ∧ w' = (w.setCell ⟨g, 0, none⟩ (.string ⟨#[]⟩)).setCell ⟨g2, 0, none⟩ (.int .i64 0) := by
  have d0 := h.c 0 _ rfl
  have f0 := h.f 0
  have d1 : (w.setCell ⟨g, 0, none⟩ (.string ⟨#[]⟩)).cell? ⟨g2, 0, none⟩ = some b := by rw [World.cell?_setCell_other _ _ _ _ (fun e => hne (by injection e))]; exact h2.c 0 _ rfl
  have f1 : (w.setCell ⟨g, 0, none⟩ (.string ⟨#[]⟩)).frozen? ⟨g2, 0, none⟩ = false := by rw [World.frozen?_setCell]; exact h2.f 0
  clear hne h h2
  go_enter Try.func43, Try.ntmps43
  go_wp2_with fail
  go_end0
  exact ⟨rfl, rfl⟩
theorem assert_nil (W : World) : (Instr.typeAssert .nilIface 20 29 true).run Try.prog W = .ok (.tuple #[.int .i64 0, .bool false]) W := by kernel_rfl
theorem assert_err (z : Int) (W : World) : (Instr.typeAssert (.iface 29 (.int .i64 z)) 20 29 true).run Try.prog W = .ok (.tuple #[.int .i64 z, .bool true]) W := by kernel_rfl
theorem makes_func : ∀ (fn : Fn) (first cap : Array Value) (w : World), (Instr.makeFunc fn first cap).run Try.prog w = .ok (.func fn first cap) w := fun _ _ _ _ => rfl
theorem caught_idle (p : Value) (q : Value) (w : World) : CallsD Try.prog 42 #[p, q] .returning w fun e u' w' => e = .returned (.tuple #[]) ∧ u' = .returning ∧ w' = w := by
  refine callsD_of_wpS Try.func42 rfl fun c₀ cs hu => ?_
  simp only [Try.ntmps42, List.size_toArray, List.length_cons, List.length_nil, Nat.reduceAdd, Nat.reduceSub, Array.replicate_succ, Array.replicate_zero, List.push_toArray, List.append_toArray, List.nil_append, List.cons_append]
  apply wpS_seq
  apply wpS_region
  have ha := assert_nil
  have hb := assert_err
  simp [wpOpsS, go_sem, recoverD, hu, ha, hb, Try.ntmps42, Exit.thenS]
  refine wpS_of_wp ?_
  go_wp2_with fail
  cases c₀
  simp_all [bodyPostS, results, Try.results42]
theorem caught_u (g g1 g2 : Nat) (z : Int) (older : List PanicEntry) (w w1 : World) (x : Value) (hx : w.cell? ⟨g, 0, none⟩ = some x) (hf : w.frozen? ⟨g, 0, none⟩ = false)
    (hC : Calls Try.prog 43 #[.pointer (some ⟨g1, 0, none⟩), .pointer (some ⟨g2, 0, none⟩)] (w.setCell ⟨g, 0, none⟩ (.int .i64 z)) fun e w' => e = .returned (.tuple #[]) ∧ w' = w1) :
    CallsD Try.prog 42 #[.pointer (some ⟨g, 0, none⟩), .func (.func 43) #[] #[.pointer (some ⟨g1, 0, none⟩), .pointer (some ⟨g2, 0, none⟩)]] (.panicking ({ v := .iface 29 (.int .i64 z), recovered := false } :: older)) w fun e u' w' => e = .returned (.tuple #[]) ∧ u' = .panicking ({ v := .iface 29 (.int .i64 z), recovered := true } :: older) ∧ w' = w1 := by
  refine callsD_of_wpS Try.func42 rfl fun c₀ cs hu => ?_
  simp only [Try.ntmps42, List.size_toArray, List.length_cons, List.length_nil, Nat.reduceAdd, Nat.reduceSub, Array.replicate_succ, Array.replicate_zero, List.push_toArray, List.append_toArray, List.nil_append, List.cons_append]
  apply wpS_seq
  apply wpS_region
  have ha := assert_nil
  have hb := assert_err
  simp [wpOpsS, go_sem, recoverD, hu, ha, hb, Try.ntmps42, Exit.thenS]
  clear ha hb
  have HU := Lib.hid hu; clear hu
  refine wpS_of_wp ?_
  go_wp2_with fail
  refine hC.mono ?_
  clear hC
  rintro e w2 ⟨rfl, rfl⟩
  go_wp2_with fail
  have hu := HU.out
  cases c₀
  simp_all [bodyPostS, results, Try.results42]

def unOk (size many : Int) : Bool := decide ((size = 3 ∨ size = 4) ∧ 0 ≤ many ∧ many ≤ 256)
def unR (s : List UInt8) (size many : Int) : List UInt8 × Int × Int :=
  if unOk size many then match unpackT size.toNat many.toNat s with
    | some o => (o.1, (s.length : Int) - (o.2.length : Int), 0)
    | none => ([], 0, 6)
  else ([], 0, 1)
def UnpRes (r : List UInt8 × Int × Int) (w : World) (e : Ending) (w' : World) : Prop := e = .returned (.tuple #[strV r.1, .int .i64 r.2.1, .int .i64 r.2.2]) ∧ Below w.heap.size w w'
/-- Unpack's variables -/
structure UnVars (w W : World) (l : List UInt8) (n e : Int) : Prop where
  a : SlotN W w.heap.size [strV l]
  b : SlotN W (w.heap.size + 1) [.int .i64 n]
  c : SlotN W (w.heap.size + 1 + 1) [.int .i64 e]
  below : Below w.heap.size w W
  size : w.heap.size + 3 ≤ W.heap.size
theorem UnVars.new (w : World) (t1 t2 t3 : TypeId) : UnVars w (((w.alloc (.cells #[.string ⟨#[]⟩] t1)).alloc (.cells #[.int .i64 0] t2)).alloc (.cells #[.int .i64 0] t3)) [] 0 0 := by
  have s1 := SlotN.new w [strV []] #[.string ⟨#[]⟩] t1 rfl
  have s2 := SlotN.new (w.alloc (.cells #[.string ⟨#[]⟩] t1)) [.int .i64 0] #[.int .i64 0] t2 rfl
  have s3 := SlotN.new ((w.alloc (.cells #[.string ⟨#[]⟩] t1)).alloc (.cells #[.int .i64 0] t2)) [.int .i64 0] #[.int .i64 0] t3 rfl
  have b1 : Below (w.heap.size + 1) (w.alloc (.cells #[.string ⟨#[]⟩] t1)) ((w.alloc (.cells #[.string ⟨#[]⟩] t1)).alloc (.cells #[.int .i64 0] t2)) := (Below.refl _ _).alloc (by simp) _
  have b2 : Below (w.heap.size + 1 + 1) ((w.alloc (.cells #[.string ⟨#[]⟩] t1)).alloc (.cells #[.int .i64 0] t2)) (((w.alloc (.cells #[.string ⟨#[]⟩] t1)).alloc (.cells #[.int .i64 0] t2)).alloc (.cells #[.int .i64 0] t3)) := (Below.refl _ _).alloc (by simp) _
  simp only [World.size_alloc] at s2 s3
  exact ⟨(s1.below b1 (by omega)).below b2 (by omega), s2.below b2 (by omega), s3, (((Below.refl _ _).alloc (Nat.le_refl _) _).alloc (by simp) _).alloc (by simp; omega) _, by simp⟩
theorem UnVars.below' {w W W' : World} {l : List UInt8} {n e : Int} (h : UnVars w W l n e) {g : Nat} (hg : w.heap.size + 3 ≤ g) (hb : W.grownBy W' (some g)) : UnVars w W' l n e := by
  have hz := h.size
  have k : ∀ k, k < w.heap.size + 3 → W'.heap[k]? = W.heap[k]? := fun k hk => hb.block k (by omega) (fun e => by injection e with e; omega)
  have kc : ∀ k j, k < w.heap.size + 3 → W'.cell? ⟨k, j, none⟩ = W.cell? ⟨k, j, none⟩ := fun k' j hk => by simp [World.cell?, k k' hk]
  have kf : ∀ k j, k < w.heap.size + 3 → W'.frozen? ⟨k, j, none⟩ = W.frozen? ⟨k, j, none⟩ := fun k' j hk => by simp [World.frozen?, k k' hk]
  exact ⟨⟨fun j u hj => by rw [kc _ _ (by omega)]; exact h.a.c j u hj, fun j => by rw [kf _ _ (by omega)]; exact h.a.f j⟩, ⟨fun j u hj => by rw [kc _ _ (by omega)]; exact h.b.c j u hj, fun j => by rw [kf _ _ (by omega)]; exact h.b.f j⟩, ⟨fun j u hj => by rw [kc _ _ (by omega)]; exact h.c.c j u hj, fun j => by rw [kf _ _ (by omega)]; exact h.c.f j⟩,
    h.below.grown hb h.below.size (fun r e => by injection e with e; omega), Nat.le_trans hz hb.size⟩

theorem SlotN.other {w : World} {g : Nat} {l : List Value} (h : SlotN w g l) (g2 : Nat) (hne : g2 ≠ g) (u : Value) : SlotN (w.setCell ⟨g2, 0, none⟩ u) g l :=
  ⟨fun j x hj => by rw [World.cell?_setCell_other _ _ _ _ (by intro e; have := congrArg Addr.block e; simp at this; omega)]; exact h.c j x hj, fun j => by rw [World.frozen?_setCell]; exact h.f j⟩
theorem UnVars.store_a {w W : World} {l : List UInt8} {n e : Int} (h : UnVars w W l n e) (l' : List UInt8) : UnVars w (W.setCell ⟨w.heap.size, 0, none⟩ (strV l')) l' n e :=
  ⟨h.a.one _, h.b.other _ (by omega) _, h.c.other _ (by omega) _, h.below.setCell (p := ⟨w.heap.size, 0, none⟩) (Nat.le_refl _) _, by simpa using h.size⟩
theorem UnVars.store_b {w W : World} {l : List UInt8} {n e : Int} (h : UnVars w W l n e) (n' : Int) : UnVars w (W.setCell ⟨w.heap.size + 1, 0, none⟩ (.int .i64 n')) l n' e :=
  ⟨h.a.other _ (by omega) _, h.b.one _, h.c.other _ (by omega) _, h.below.setCell (p := ⟨w.heap.size + 1, 0, none⟩) (by simp) _, by simpa using h.size⟩
theorem UnVars.store_e {w W : World} {l : List UInt8} {n e : Int} (h : UnVars w W l n e) (e' : Int) : UnVars w (W.setCell ⟨w.heap.size + 1 + 1, 0, none⟩ (.int .i64 e')) l n e' :=
  ⟨h.a.other _ (by omega) _, h.b.other _ (by omega) _, h.c.one _, h.below.setCell (p := ⟨w.heap.size + 1 + 1, 0, none⟩) (by simp; omega) _, by simpa using h.size⟩
theorem unpack_rest {z : Nat} : ∀ (need : Nat) (s : List UInt8) (o : List UInt8 × List UInt8), unpackT z need s = some o → o.2.length ≤ s.length
  | need, s, o, h => by
    by_cases h0 : need = 0
    · subst h0
      rw [unpackT_zero] at h
      cases h; simp
    · cases s with
      | nil => rw [unpackT_nil h0] at h; cases h
      | cons c t =>
        rw [unpackT_cons _ _ _ _ h0] at h
        split at h
        · cases h
        · rename_i h1
          split at h
          · split at h
            · cases h
            · cases hu : unpackT z (need - (c.toNat % 128 + 1)) (t.drop z) with
              | none => rw [hu] at h; cases h
              | some q =>
                rw [hu] at h
                simp only [Option.map_some, Option.some.injEq] at h
                subst h
                have ih := unpack_rest _ _ _ hu
                rw [List.length_drop] at ih
                simp only [List.length_cons]; omega
          · split at h
            · cases h
            · cases hu : unpackT z (need - (c.toNat % 128 + 1)) (t.drop ((c.toNat % 128 + 1) * z)) with
              | none => rw [hu] at h; cases h
              | some q =>
                rw [hu] at h
                simp only [Option.map_some, Option.some.injEq] at h
                subst h
                have ih := unpack_rest _ _ _ hu
                rw [List.length_drop] at ih
                simp only [List.length_cons]; omega
termination_by need => need
theorem set3_cells (w W : World) {l : List UInt8} {n e : Int} (h : UnVars w W l n e) (l' : List UInt8) (n' e' : Int) :
    UnVars w (((W.setCell ⟨w.heap.size, 0, none⟩ (strV l')).setCell ⟨w.heap.size + 1, 0, none⟩ (.int .i64 n')).setCell ⟨w.heap.size + 1 + 1, 0, none⟩ (.int .i64 e')) l' n' e' := ((h.store_a l').store_b n').store_e e'

set_option maxHeartbeats 800000 in
theorem unp_no (s : List UInt8) (size many : Int) (w : World) (h : unOk size many = false) : Calls Try.prog 18 #[.string ⟨s.toArray⟩, .int .i64 size, .int .i64 many] w (UnpRes ([], 0, 1) w) := by
  have K := Lib.hid (fun W => colours_any size W)
  unfold UnpRes
  have hv := UnVars.new w 9 3 29
  have d0 := hv.a.c 0 _ rfl
  have d1 := hv.b.c 0 _ rfl
  have d2 := hv.c.c 0 _ rfl
  have f0 := hv.a.f 0
  have f1 := hv.b.f 0
  have f2 := hv.c.f 0
  have hv9 := set3_cells w _ hv [] 0 1
  have HV := Lib.hid hv9
  unfold strV at *
  clear hv hv9
  go_enter_defers Try.func18, Try.ntmps18
  go_wp2_with fail
  generalize ((w.alloc (.cells #[.string ⟨#[]⟩] 9)).alloc (.cells #[.int .i64 0] 3)).alloc (.cells #[.int .i64 0] 29) = W0 at *
  refine (K.out _).mono ?_
  clear K
  rintro e w' ⟨rfl, rfl⟩
  unfold unOk at h
  rw [decide_eq_false_iff_not] at h
  by_cases h1 : size = 3 ∨ size = 4
  · rw [decide_eq_true h1]
    by_cases h2 : many < 0
    · have t1 : decide (many < 0) = true := decide_eq_true h2
      clear h h1 h2
      go_wp2_with fail
      have hV := HV.out
      clear HV
      generalize ((w'.setCell ⟨w.heap.size, 0, none⟩ (.string ⟨#[]⟩)).setCell ⟨w.heap.size + 1, 0, none⟩ (.int .i64 0)).setCell ⟨w.heap.size + 1 + 1, 0, none⟩ (.int .i64 1) = V at *
      have e0 := hV.a.c 0 _ rfl
      have e1 := hV.b.c 0 _ rfl
      have e2 := hV.c.c 0 _ rfl
      refine ⟨.tuple #[.string ⟨#[]⟩, .int .i64 0, .int .i64 1], ?_, rfl, hV.below⟩
      simp [results, Try.results18, go_sem, e0, e1, e2, strV]
    · have t1 : decide (many < 0) = false := decide_eq_false h2
      have t2 : decide (256 < many) = true := decide_eq_true (by omega)
      clear h h1 h2
      go_wp2_with fail
      have hV := HV.out
      clear HV
      generalize ((w'.setCell ⟨w.heap.size, 0, none⟩ (.string ⟨#[]⟩)).setCell ⟨w.heap.size + 1, 0, none⟩ (.int .i64 0)).setCell ⟨w.heap.size + 1 + 1, 0, none⟩ (.int .i64 1) = V at *
      have e0 := hV.a.c 0 _ rfl
      have e1 := hV.b.c 0 _ rfl
      have e2 := hV.c.c 0 _ rfl
      refine ⟨.tuple #[.string ⟨#[]⟩, .int .i64 0, .int .i64 1], ?_, rfl, hV.below⟩
      simp [results, Try.results18, go_sem, e0, e1, e2, strV]
  · rw [decide_eq_false h1]
    clear h h1
    go_wp2_with fail
    have hV := HV.out
    clear HV
    generalize ((w'.setCell ⟨w.heap.size, 0, none⟩ (.string ⟨#[]⟩)).setCell ⟨w.heap.size + 1, 0, none⟩ (.int .i64 0)).setCell ⟨w.heap.size + 1 + 1, 0, none⟩ (.int .i64 1) = V at *
    have e0 := hV.a.c 0 _ rfl
    have e1 := hV.b.c 0 _ rfl
    have e2 := hV.c.c 0 _ rfl
    refine ⟨.tuple #[.string ⟨#[]⟩, .int .i64 0, .int .i64 1], ?_, rfl, hV.below⟩
    simp [results, Try.results18, go_sem, e0, e1, e2, strV]
set_option maxHeartbeats 1600000 in
theorem unp_yes (s : List UInt8) (z need : Nat) (w : World) (hz : z = 3 ∨ z = 4) (hn : need ≤ 256) (hl : s.length ≤ 1000000) :
    Calls Try.prog 18 #[.string ⟨s.toArray⟩, .int .i64 (z : Int), .int .i64 (need : Int)] w (UnpRes (match unpackT z need s with | some o => (o.1, (s.length : Int) - (o.2.length : Int), 0) | none => ([], 0, 6)) w) := by
  have K := Lib.hid (fun W => colours_any (z : Int) W)
  rw [decide_eq_true (show (z : Int) = 3 ∨ (z : Int) = 4 by omega)] at K
  have hv := UnVars.new w 9 3 29
  have hz3 : (((w.alloc (.cells #[.string ⟨#[]⟩] 9)).alloc (.cells #[.int .i64 0] 3)).alloc (.cells #[.int .i64 0] 29)).heap.size = w.heap.size + 3 := by simp
  have t1 : decide ((need : Int) < 0) = false := decide_eq_false (by omega)
  have t2 : decide (256 < (need : Int)) = false := decide_eq_false (by omega)
  have hmf := makes_func
  have HV0 := Lib.hid hv
  clear hv
  obtain ⟨R, hR⟩ : ∃ R : List UInt8 × Int × Int, R = (match unpackT z need s with | some o => (o.1, (s.length : Int) - (o.2.length : Int), 0) | none => ([], 0, 6)) := ⟨_, rfl⟩
  rw [← hR]
  have HR := Lib.hid hR; clear hR
  go_enter_defers Try.func18, Try.ntmps18
  go_wp2_with fail
  generalize ((w.alloc (.cells #[.string ⟨#[]⟩] 9)).alloc (.cells #[.int .i64 0] 3)).alloc (.cells #[.int .i64 0] 29) = W0 at *
  refine (K.out _).mono ?_
  clear K
  rintro e w' ⟨rfl, rfl⟩
  have hrd := SlotN.new w' [strV s] #[.string ⟨s.toArray⟩] 71 rfl
  have hbA : Below w'.heap.size w' (w'.alloc (.cells #[.string ⟨s.toArray⟩] 71)) := (Below.refl _ _).alloc (Nat.le_refl _) _
  have hv1 : UnVars w (w'.alloc (.cells #[.string ⟨s.toArray⟩] 71)) [] 0 0 := HV0.out.below' (g := w'.heap.size) (by omega) ⟨hbA.os, hbA.tape, hbA.output, hbA.size, fun k hk _ => hbA.block k hk⟩
  have hz4 : w'.heap.size < (w'.alloc (.cells #[.string ⟨s.toArray⟩] 71)).heap.size := by simp
  obtain ⟨G, hG⟩ : ∃ G, G = w.heap.size + 3 := ⟨_, rfl⟩
  have hG3 : w.heap.size + 3 ≤ G := by omega
  have KU := Lib.hid (unpack_any G z need s (w'.alloc (.cells #[.string ⟨s.toArray⟩] 71)) (by rw [hG, ← hz3]; exact hrd) (by rw [hG, ← hz3]; exact hz4) hz hl hn)
  have HV1 := Lib.hid hv1
  clear hrd hbA hv1 hz4 HV0
  go_wp2_with fail
  rw [← hG]
  refine KU.out.mono ?_
  clear KU
  rintro e w2 ⟨hgr, hsome, hnone⟩
  have HV2 := Lib.hid (HV1.out.below' hG3 hgr)
  clear hgr HV1
  cases hu : unpackT z need s with
  | some o =>
    obtain ⟨rfl, hs2⟩ := hsome o hu
    have hre := unpack_rest need s o hu
    have hRR : Hid (R = (o.1, (s.length : Int) - (o.2.length : Int), 0)) := Lib.hid (by rw [HR.out, hu])
    clear hnone hsome hu
    obtain ⟨o1, o2⟩ := o
    subst hG
    have HS2 := Lib.hid hs2; clear hs2
    unfold strV
    have d3 := HS2.out.c 0 _ rfl
    have d0 := HV2.out.a.c 0 _ rfl
    have d1 := HV2.out.b.c 0 _ rfl
    have d2 := HV2.out.c.c 0 _ rfl
    have f0 := HV2.out.a.f 0
    have f1 := HV2.out.b.f 0
    have f2 := HV2.out.c.f 0
    unfold strV at d0 d3
    have hl2 : o2.length ≤ 1000000 := Nat.le_trans hre hl
    have HF := Lib.hid (set3_cells w w2 HV2.out o1 ((s.length : Int) - (o2.length : Int)) 0)
    unfold strV at HF
    go_wp2_with fail
    go_region
    go_wp2_with fail
    refine leaves_cons (f := 42) (args := #[.pointer (some ⟨w.heap.size + 1 + 1, 0, none⟩), .func (.func 43) #[] #[.pointer (some ⟨w.heap.size, 0, none⟩), .pointer (some ⟨w.heap.size + 1, 0, none⟩)]]) (by simp) (by simp [go_sem]) ?_
    refine (caught_idle _ _ _).mono ?_
    rintro e u' w'' ⟨rfl, rfl, rfl⟩
    have HF := HF.out
    rw [hRR.out]
    generalize ((w2.setCell ⟨w.heap.size, 0, none⟩ (.string ⟨o1.toArray⟩)).setCell ⟨w.heap.size + 1, 0, none⟩ (.int .i64 ((s.length : Int) - (o2.length : Int)))).setCell ⟨w.heap.size + 1 + 1, 0, none⟩ (.int .i64 0) = V at *
    have e0 := HF.a.c 0 _ rfl
    have e1 := HF.b.c 0 _ rfl
    have e2 := HF.c.c 0 _ rfl
    refine ⟨.tuple #[.string ⟨o1.toArray⟩, .int .i64 ((s.length : Int) - (o2.length : Int)), .int .i64 0], ?_, rfl, HF.below.drew⟩
    simp [results, Try.results18, go_sem, e0, e1, e2, strV]
  | none =>
    obtain rfl := hnone hu
    have hRR : Hid (R = ([], 0, 6)) := Lib.hid (by rw [HR.out, hu])
    clear hnone hsome hu
    unfold Thrown
    go_wp2_with fail
    have HE1 := Lib.hid (HV2.out.store_e 6)
    have HE2 := Lib.hid (HE1.out.store_a [])
    have HE3 := Lib.hid (HE2.out.store_b 0)
    refine leaves_cons (f := 42) (args := #[.pointer (some ⟨w.heap.size + 1 + 1, 0, none⟩), .func (.func 43) #[] #[.pointer (some ⟨w.heap.size, 0, none⟩), .pointer (some ⟨w.heap.size + 1, 0, none⟩)]]) (by simp) (by simp [go_sem]) ?_
    refine (caught_u (w.heap.size + 1 + 1) w.heap.size (w.heap.size + 1) 6 [] w2 _ (.int .i64 0) (HV2.out.c.c 0 _ rfl) (HV2.out.c.f 0) (clearU w.heap.size (w.heap.size + 1) _ _ _ HE1.out.a HE1.out.b (by omega))).mono ?_
    rintro e u' w'' ⟨rfl, rfl, rfl⟩
    have HF := HE3.out
    unfold strV at HF
    generalize ((w2.setCell ⟨w.heap.size + 1 + 1, 0, none⟩ (.int .i64 6)).setCell ⟨w.heap.size, 0, none⟩ (.string ⟨#[]⟩)).setCell ⟨w.heap.size + 1, 0, none⟩ (.int .i64 0) = V at *
    have e0 := HF.a.c 0 _ rfl
    have e1 := HF.b.c 0 _ rfl
    have e2 := HF.c.c 0 _ rfl
    rw [hRR.out]
    refine ⟨.tuple #[.string ⟨#[]⟩, .int .i64 0, .int .i64 6], ?_, rfl, HF.below⟩
    simp [results, Try.results18, go_sem, e0, e1, e2, strV]
theorem unp_any (s : List UInt8) (size many : Int) (w : World) (hl : s.length ≤ 1000000) : Calls Try.prog 18 #[.string ⟨s.toArray⟩, .int .i64 size, .int .i64 many] w (UnpRes (unR s size many) w) := by
  unfold unR
  cases h : unOk size many with
  | false => exact unp_no s size many w h
  | true =>
    unfold unOk at h
    rw [decide_eq_true_iff] at h
    obtain ⟨z, rfl⟩ : ∃ z : Nat, size = z := ⟨size.toNat, by omega⟩
    obtain ⟨n, rfl⟩ : ∃ n : Nat, many = n := ⟨many.toNat, by omega⟩
    exact unp_yes s z n w (by omega) (by omega) hl
end Go.Proofs.Ytfkkppagbhllgaa
