/-
  THE STEPS OF tga.Get: its head.
-/
import Derived.Test.YtfkkppagbhllgaaTgaWalkL
set_option linter.unusedVariables false
set_option linter.unusedSimpArgs false
set_option maxRecDepth 100000
namespace Go.Proofs.Ytfkkppagbhllgaa
open Go.RowKit

theorem idx_str (l : List UInt8) (i : Nat) (k : Int) (h : i < l.length) (hk : k = (i : Int)) (W : World) : Sem.run Try.prog (Instr.index 9 (.string ⟨l.toArray⟩) (.int .i64 k)) W = .ok (.int .u8 ((l.getD i 0).toNat : Int)) W := by
  subst hk
  have hs : i < (⟨l.toArray⟩ : ByteArray).size := by simpa [ByteArray.size] using h
  simp [go_sem, hs]
  rw [dif_pos h, List.getElem?_eq_getElem h]
  rfl
/-- Get's variables -/
structure GetAt (w W : World) (xs : List Value) (e : Int) (rest : List UInt8) : Prop where
  m : SlotN W w.heap.size xs
  e : SlotN W (w.heap.size + 1) [.int .i64 e]
  r : SlotN W (w.heap.size + 1 + 1) [strV rest]
  below : Below w.heap.size w W
  size : w.heap.size + 3 ≤ W.heap.size
def zimV : Value := .agg #[.int .i64 0, .int .i64 0, .int .i64 0, .slice none 0 0]
def zim : List Value := [.int .i64 0, .int .i64 0, .int .i64 0, .slice none 0 0]
theorem GetAt.new (w : World) (s : List UInt8) (t1 t2 t3 : TypeId) : GetAt w (((w.alloc (.cells #[.int .i64 0, .int .i64 0, .int .i64 0, .slice none 0 0] t1)).alloc (.cells #[.int .i64 0] t2)).alloc (.cells #[.string ⟨s.toArray⟩] t3)) zim 0 s := by
  have s1 := SlotN.new w zim #[.int .i64 0, .int .i64 0, .int .i64 0, .slice none 0 0] t1 rfl
  have s2 := SlotN.new (w.alloc (.cells #[.int .i64 0, .int .i64 0, .int .i64 0, .slice none 0 0] t1)) [.int .i64 0] #[.int .i64 0] t2 rfl
  have s3 := SlotN.new ((w.alloc (.cells #[.int .i64 0, .int .i64 0, .int .i64 0, .slice none 0 0] t1)).alloc (.cells #[.int .i64 0] t2)) [strV s] #[.string ⟨s.toArray⟩] t3 rfl
  have b1 : Below (w.heap.size + 1) (w.alloc (.cells #[.int .i64 0, .int .i64 0, .int .i64 0, .slice none 0 0] t1)) ((w.alloc (.cells #[.int .i64 0, .int .i64 0, .int .i64 0, .slice none 0 0] t1)).alloc (.cells #[.int .i64 0] t2)) := (Below.refl _ _).alloc (by simp) _
  have b2 : Below (w.heap.size + 1 + 1) ((w.alloc (.cells #[.int .i64 0, .int .i64 0, .int .i64 0, .slice none 0 0] t1)).alloc (.cells #[.int .i64 0] t2)) (((w.alloc (.cells #[.int .i64 0, .int .i64 0, .int .i64 0, .slice none 0 0] t1)).alloc (.cells #[.int .i64 0] t2)).alloc (.cells #[.string ⟨s.toArray⟩] t3)) := (Below.refl _ _).alloc (by simp) _
  simp only [World.size_alloc] at s2 s3
  exact ⟨(s1.below b1 (by omega)).below b2 (by omega), s2.below b2 (by omega), s3, (((Below.refl _ _).alloc (Nat.le_refl _) _).alloc (by simp) _).alloc (by simp; omega) _, by simp⟩
theorem GetAt.grown {w W W' : World} {xs : List Value} {e : Int} {rest : List UInt8} (h : GetAt w W xs e rest) (hb : Below W.heap.size W W') : GetAt w W' xs e rest := by
  have := h.size
  exact ⟨h.m.below hb (by omega), h.e.below hb (by omega), h.r.below hb (by omega), h.below.trans (hb.mono h.below.size), Nat.le_trans this hb.size⟩
theorem GetAt.took {w W : World} {xs : List Value} {e : Int} {rest : List UInt8} (h : GetAt w W xs e rest) (r' : List UInt8) : GetAt w (W.setCell ⟨w.heap.size + 1 + 1, 0, none⟩ (strV r')) xs e r' :=
  ⟨h.m.other _ (by omega) _, h.e.other _ (by omega) _, h.r.one _, h.below.setCell (p := ⟨w.heap.size + 1 + 1, 0, none⟩) (by simp; omega) _, by simpa using h.size⟩
theorem GetAt.setM {w W : World} {xs : List Value} {e : Int} {rest : List UInt8} (h : GetAt w W xs e rest) (k : Nat) (hk : k < xs.length) (v : Value) : GetAt w (W.setCell ⟨w.heap.size, k, none⟩ v) (xs.set k v) e rest :=
  ⟨h.m.setAt k hk v, h.e.otherJ _ _ (by omega) _, h.r.otherJ _ _ (by omega) _, h.below.setCell (p := ⟨w.heap.size, k, none⟩) (Nat.le_refl _) _, by simpa using h.size⟩
theorem GetAt.setE {w W : World} {xs : List Value} {e : Int} {rest : List UInt8} (h : GetAt w W xs e rest) (e' : Int) : GetAt w (W.setCell ⟨w.heap.size + 1, 0, none⟩ (.int .i64 e')) xs e' rest :=
  ⟨h.m.other _ (by omega) _, h.e.one _, h.r.other _ (by omega) _, h.below.setCell (p := ⟨w.heap.size + 1, 0, none⟩) (by simp) _, by simpa using h.size⟩
theorem GetAt.drew {w W : World} {xs : List Value} {e : Int} {rest : List UInt8} (h : GetAt w W xs e rest) : GetAt w W.drew xs e rest :=
  ⟨⟨h.m.c, h.m.f⟩, ⟨h.e.c, h.e.f⟩, ⟨h.r.c, h.r.f⟩, h.below.drew, h.size⟩
/-- a piece of code that throws nothing -/
theorem wp_calm {P : Program} {c : Code} {K : Act → World → Prop} {Q : Exit → Act → World → Prop} {a : Act} {w : World} (h : c.wp P (Exit.then K fun _ _ _ => False) a w) : c.wp P (Exit.then K Q) a w :=
  wp_mono h fun e a w q => by cases e <;> first | exact q | exact q.elim
theorem or_shl (a b : Nat) (ha : a ≤ 255) (hb : b ≤ 255) : Go.bits BinOp.or IntKind.i64 (a : Int) ((b : Int) * 256) = (a : Int) + 256 * (b : Int) := by
  have e : (b : Int) * 256 = ((b * 256 : Nat) : Int) := by simp
  rw [e]
  unfold Go.bits
  have e1 : ((a : Int) % (2 ^ IntKind.i64.bits : Int)).toNat = a := by show ((a : Int) % 18446744073709551616).toNat = a; omega
  have e2 : (((b * 256 : Nat) : Int) % (2 ^ IntKind.i64.bits : Int)).toNat = b * 256 := by show (((b * 256 : Nat) : Int) % 18446744073709551616).toNat = b * 256; omega
  have e3 : a ||| b * 256 = a + 256 * b := by
    have := Nat.two_pow_add_eq_or_of_lt (i := 8) (b := a) (by omega) b
    rw [show b * 256 = 2 ^ 8 * b by omega, Nat.or_comm, ← this]; omega
  have f1 : (BitVec.ofInt IntKind.i64.bits (a : Int)).toNat = a := by rw [BitVec.toNat_ofInt]; exact e1
  have f2 : (BitVec.ofInt IntKind.i64.bits ((b * 256 : Nat) : Int)).toNat = b * 256 := by rw [BitVec.toNat_ofInt]; exact e2
  show IntKind.i64.wrap ((BitVec.ofInt IntKind.i64.bits (a : Int) ||| BitVec.ofInt IntKind.i64.bits ((b * 256 : Nat) : Int)).toNat : Int) = _
  rw [BitVec.toNat_or, f1, f2, e3, IntKind.wrap_i64]
  omega
theorem clearG (g : Nat) (xs : List Value) (w : World) (h : SlotN w g xs) (hl : xs.length = 4) : Calls Try.prog 46 #[.pointer (some ⟨g, 0, none⟩)] w fun e w' =>
    e = .returned (.tuple #[]) ∧ w' = (((w.setCell ⟨g, 0, none⟩ (.int .i64 0)).setCell ⟨g, 1, none⟩ (.int .i64 0)).setCell ⟨g, 2, none⟩ (.int .i64 0)).setCell ⟨g, 3, none⟩ (.slice none 0 0) := by
  match xs, hl with
  | [a, b, c, d], _ =>
  have d0 := h.c 0 _ rfl
  have d1 := h.c 1 _ rfl
  have d2 := h.c 2 _ rfl
  have d3 := h.c 3 _ rfl
  have f0 := h.f 0
  have f1 := h.f 1
  have f2 := h.f 2
  have f3 := h.f 3
  go_enter Try.func46, Try.ntmps46
  go_wp2_with fail
  go_end0
  exact ⟨rfl, rfl⟩
theorem caught_g (g g2 : Nat) (z : Int) (older : List PanicEntry) (w w1 : World) (x : Value) (hx : w.cell? ⟨g, 0, none⟩ = some x) (hf : w.frozen? ⟨g, 0, none⟩ = false)
    (hC : Calls Try.prog 46 #[.pointer (some ⟨g2, 0, none⟩)] (w.setCell ⟨g, 0, none⟩ (.int .i64 z)) fun e w' => e = .returned (.tuple #[]) ∧ w' = w1) :
    CallsD Try.prog 42 #[.pointer (some ⟨g, 0, none⟩), .func (.func 46) #[] #[.pointer (some ⟨g2, 0, none⟩)]] (.panicking ({ v := .iface 29 (.int .i64 z), recovered := false } :: older)) w fun e u' w' => e = .returned (.tuple #[]) ∧ u' = .panicking ({ v := .iface 29 (.int .i64 z), recovered := true } :: older) ∧ w' = w1 := by
  refine callsD_of_wpS Try.func42 rfl fun c₀ cs hu => ?_
  simp only [Try.ntmps42, List.size_toArray, List.length_cons, List.length_nil, Nat.reduceAdd, Nat.reduceSub, Array.replicate_succ, Array.replicate_zero, List.push_toArray, List.append_toArray, List.nil_append, List.cons_append]
  apply wpS_seq
  apply wpS_region
  have ha := assert_nil
  have hb := assert_err
  simp [wpOpsS, go_sem, recoverD, hu, ha, hb, Try.ntmps42, Exit.thenS]
  clear ha hb
  have HU := Lib.hid hu; clear hu
  refine wpS_of_wp ?_
  go_wp2_with fail
  refine hC.mono ?_
  clear hC
  rintro e w2 ⟨rfl, rfl⟩
  go_wp2_with fail
  have hu := HU.out
  cases c₀
  simp_all [bodyPostS, results, Try.results42]
/-- what Get hands back -/
def GetRes (s : List UInt8) (w : World) (e : Ending) (w' : World) : Prop :=
  Below w.heap.size w w' ∧ ((getT s = none ∧ e = .returned (.tuple #[zimV, .int .i64 6])) ∨
    ∃ m A n c, getT s = some m ∧ e = .returned (.tuple #[imV m.w m.h ((8 * m.z : Nat) : Int) A n c, .int .i64 0]) ∧ Byts w' w'.heap.size A n m.d ∧ n ≤ c ∧ c ≤ 9223372036854775807)
set_option maxHeartbeats 400000 in
theorem get_short (s : List UInt8) (w : World) (hl : s.length ≤ 1000000) (h18 : s.length < 18) : Calls Try.prog 25 #[.string ⟨s.toArray⟩] w (GetRes s w) := by
  have FIN2 : Hid (∀ w', getT s = none → Below w.heap.size w w' → GetRes s w (.returned (.tuple #[zimV, .int .i64 6])) w') := Lib.hid fun w' h1 h2 => ⟨h2, .inl ⟨h1, rfl⟩⟩
  have HN : Hid (getT s = none) := Lib.hid (by unfold getT; rw [if_pos h18])
  generalize hQ : GetRes s w = Qp at FIN2 ⊢
  clear hQ
  have hmf := makes_func
  have hG := GetAt.new w s 24 29 71
  have KT := Lib.hid (take_bad (w.heap.size + 1 + 1) s 18 _ hG.r (by omega) hl)
  have HGT := Lib.hid hG
  clear hG
  unfold Thrown at KT
  go_enter_defers Try.func25, Try.ntmps25
  go_wp2_with fail
  refine KT.out.mono ?_
  clear KT
  generalize (((w.alloc (.cells #[.int .i64 0, .int .i64 0, .int .i64 0, .slice none 0 0] 24)).alloc (.cells #[.int .i64 0] 29)).alloc (.cells #[.string ⟨s.toArray⟩] 71)) = W2 at *
  rintro e w2 ⟨rfl, rfl⟩
  go_wp2_with fail
  have HE1 := Lib.hid (HGT.out.setE 6)
  have HE2 := Lib.hid ((((HE1.out.setM 0 (by simp [zim]) (.int .i64 0)).setM 1 (by simp [zim]) (.int .i64 0)).setM 2 (by simp [zim]) (.int .i64 0)).setM 3 (by simp [zim]) (.slice none 0 0))
  refine leaves_cons (f := 42) (args := #[.pointer (some ⟨w.heap.size + 1, 0, none⟩), .func (.func 46) #[] #[.pointer (some ⟨w.heap.size, 0, none⟩)]]) (by simp) (by simp [go_sem]) ?_
  refine (caught_g (w.heap.size + 1) w.heap.size 6 [] _ _ (.int .i64 0) (HGT.out.e.c 0 _ rfl) (HGT.out.e.f 0) (clearG w.heap.size _ _ HE1.out.m rfl)).mono ?_
  rintro e u' w'' ⟨rfl, rfl, rfl⟩
  have HF := HE2.out
  clear HE1 HE2 HGT
  generalize World.setCell _ ⟨w.heap.size, 3, none⟩ (.slice none 0 0) = V at *
  have e0 := HF.m.c 0 _ rfl
  have e1 := HF.m.c 1 _ rfl
  have e2 := HF.m.c 2 _ rfl
  have e3 := HF.m.c 3 _ rfl
  have e4 := HF.e.c 0 _ rfl
  refine ⟨.tuple #[zimV, .int .i64 6], ?_, FIN2.out _ HN.out HF.below⟩
  simp [results, Try.results25, go_sem, e0, e1, e2, e3, e4, zimV]
end Go.Proofs.Ytfkkppagbhllgaa
