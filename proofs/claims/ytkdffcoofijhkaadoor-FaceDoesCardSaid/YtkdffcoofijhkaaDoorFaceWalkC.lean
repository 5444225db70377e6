/-
  THE STEPS OF face.read.
-/
import Derived.Test.YtkdffcoofijhkaaDoorFaceWalkB
set_option linter.unusedVariables false
set_option linter.unusedSimpArgs false
set_option maxRecDepth 8000
namespace Go.Proofs.YtkdffcoofijhkaaDoor
open Go.RowKit

def p3V (a : P3) : Value := .agg #[.int .i64 a.a, .int .i64 a.b, .int .i64 a.c]
def P3.bd (a : P3) : Prop := i64b a.a ∧ i64b a.b ∧ i64b a.c
/-- a corner is handed back, or an error thrown -/
def ReadRes (r : P3 × Int) (w : World) (e : Ending) (w' : World) : Prop := e = (if r.2 = 0 then .returned (p3V r.1) else Thrown r.2) ∧ Below w.heap.size w w'
theorem split_any (l : List UInt8) (w : World) (hl : l.length ≤ 100000) (hE : Env w) : Calls Tryd.prog 60 #[.string ⟨l.toArray⟩, .string ⟨#[47]⟩] w fun e w' =>
    ∃ A n c, e = .returned (.slice A n c) ∧ 1 ≤ n ∧ n ≤ 100001 ∧ Strs w' w'.heap.size A n (split1 47 l) ∧ Below w.heap.size w w' := by
  obtain ⟨m, hm⟩ := hE.big
  refine (Tryd.strings_Split ⟨l.toArray⟩ ⟨#[47]⟩ m w (by simp [ByteArray.size]; omega) hm (by simp [ByteArray.size])).mono ?_
  rintro e w' ⟨rfl, rfl⟩
  have e1 := split_eq l 47
  have hc : Lib.countB ⟨l.toArray⟩ ⟨#[47]⟩ = l.count 47 := by
    show Lib.count l [47] = _
    exact Lib.count_one 47 l
  have hlen := split1_len 47 l
  have hle : l.count 47 ≤ l.length := List.count_le_length
  have e2 : (Lib.splitB ⟨#[47]⟩ 0 (Lib.countB ⟨l.toArray⟩ ⟨#[47]⟩) ⟨l.toArray⟩).map Value.string = (split1 47 l).map strV := by
    rw [← e1, List.map_map]
    refine List.map_congr_left fun s _ => ?_
    simp only [Function.comp, strV, Lib.mk_data]
  rw [e2, hc]
  have s := SlotN.new w ((split1 47 l).map strV) _ 9 rfl
  exact ⟨_, _, _, rfl, by omega, by omega, ⟨⟨by simp [hlen], fun _ => ⟨_, rfl, by simp, fun j u hu => by rw [addr_lit]; exact s.c j u hu⟩⟩, by omega⟩, (Below.refl _ _).alloc (Nat.le_refl _) _⟩

theorem readR_ok (ls : List (List UInt8)) (m : P3) (h : formOk ls = true) (h0 : (partR ls 0 m.a).2 = 0) (h1 : (partR ls 1 m.b).2 = 0) (h2 : (partR ls 2 m.c).2 = 0) : readR ls m = (⟨(partR ls 0 m.a).1, (partR ls 1 m.b).1, (partR ls 2 m.c).1⟩, 0) := by
  unfold readR
  rw [if_pos h, if_neg (by simpa using h0), if_neg (by simpa using h1), if_neg (by simpa using h2)]
theorem readR_e0 (ls : List (List UInt8)) (m : P3) (h : formOk ls = true) (h0 : (partR ls 0 m.a).2 ≠ 0) : readR ls m = (⟨0, 0, 0⟩, (partR ls 0 m.a).2) := by
  unfold readR
  rw [if_pos h, if_pos h0]
theorem readR_e1 (ls : List (List UInt8)) (m : P3) (h : formOk ls = true) (h0 : (partR ls 0 m.a).2 = 0) (h1 : (partR ls 1 m.b).2 ≠ 0) : readR ls m = (⟨0, 0, 0⟩, (partR ls 1 m.b).2) := by
  unfold readR
  rw [if_pos h, if_neg (by simpa using h0), if_pos h1]
theorem readR_e2 (ls : List (List UInt8)) (m : P3) (h : formOk ls = true) (h0 : (partR ls 0 m.a).2 = 0) (h1 : (partR ls 1 m.b).2 = 0) (h2 : (partR ls 2 m.c).2 ≠ 0) : readR ls m = (⟨0, 0, 0⟩, (partR ls 2 m.c).2) := by
  unfold readR
  rw [if_pos h, if_neg (by simpa using h0), if_neg (by simpa using h1), if_pos h2]
theorem part_out (ls : List (List UInt8)) (j : Nat) (m : Int) (h : ls.length ≤ j) : partR ls j m = (-1, 0) := by
  unfold partR; rw [List.getElem?_eq_none h]
theorem part_in (ls : List (List UInt8)) (j : Nat) (m : Int) (l : List UInt8) (h : ls[j]? = some l) : partR ls j m = if l.isEmpty then (-1, 0) else placeR l m := by
  unfold partR; rw [h]
/-- what stands at a place behind k rounds -/
def atK (ls : List (List UInt8)) (j : Nat) (m : Int) (k : Nat) : Int := if j < k then (partR ls j m).1 else -1

set_option maxHeartbeats 800000 in
theorem read_form (l : List UInt8) (m : P3) (w : World) (hl : l.length ≤ 100000) (hE : Env w) (h : formOk (split1 47 l) = false) : Calls Tryd.prog 40 #[.string ⟨l.toArray⟩, p3V m] w (ReadRes (cornerR l m) w) := by
  have e0 : cornerR l m = (⟨0, 0, 0⟩, 6) := by unfold cornerR readR; rw [h]; rfl
  rw [e0]
  have K1 := Lib.hid (fun W hW => split_any l W hl hW)
  have K2 := Lib.hid (fun A n c W hS h1 h2 hW => form_any W.heap.size A n c (split1 47 l) W hS (Nat.le_refl _) h1 h2 (fun x hx => Nat.le_trans (split1_le 47 l x hx) hl) hW)
  rw [h] at K2
  have HE := Lib.hid hE; clear hE e0 h
  obtain ⟨m0, m1, m2⟩ := m
  unfold p3V OkOr at *
  unfold ReadRes
  simp only [Bool.false_eq_true, if_false] at K2
  rw [if_neg (show ¬ (6 : Int) = 0 by decide)]
  unfold Thrown at *
  have hb0 : Below w.heap.size w ((w.alloc (.cells #[.int .i64 m0, .int .i64 m1, .int .i64 m2] 62)).alloc (.cells #[.int .i64 0, .int .i64 0, .int .i64 0] 26)) := ((Below.refl _ _).alloc (Nat.le_refl _) _).alloc (by simp) _
  go_enter Tryd.func40, Tryd.ntmps40
  go_wp2_with fail
  generalize (w.alloc (.cells #[.int .i64 m0, .int .i64 m1, .int .i64 m2] 62)).alloc (.cells #[.int .i64 0, .int .i64 0, .int .i64 0] 26) = W0 at hb0 ⊢
  have HB := Lib.hid hb0; clear hb0
  refine (K1.out _ (HE.out.on HB.out)).mono ?_
  clear K1
  rintro e w1 ⟨A, n, c, rfl, h1, h2, hS, hb1⟩
  have HB := Lib.hid (HB.out.trans (hb1.mono HB.out.size)); clear hb1
  have K2 := Lib.hid (K2.out A n c w1 hS h1 (by omega) (HE.out.on HB.out))
  clear hS
  go_wp2_with fail
  refine K2.out.mono ?_
  clear K2
  rintro e w2 ⟨rfl, hb1⟩
  have HB := Lib.hid (HB.out.trans (hb1.mono HB.out.size)); clear hb1
  go_wp2_with fail
  exact ⟨rfl, rfl, HB.out⟩

theorem SlotN.set3 {w : World} {g : Nat} {a b c : Value} (h : SlotN w g [a, b, c]) (k : Nat) (hk : k < 3) (v : Value) : SlotN (w.setCell ⟨g, k, none⟩ v) g ([a, b, c].set k v) := by
  have h0 := h.c k _ (List.getElem?_eq_getElem (by simpa using hk))
  refine ⟨fun i x hi => ?_, fun i => by rw [World.frozen?_setCell]; exact h.f i⟩
  rw [List.getElem?_set] at hi
  by_cases e : k = i
  · subst e
    rw [if_pos rfl, if_pos (by simpa using hk)] at hi
    injection hi with hi; subst hi
    rw [World.cell?_setCell_same' _ _ _ (by rw [h0]; rfl)]
  · rw [if_neg e] at hi
    rw [World.cell?_setCell_other _ _ _ _ (by intro h9; injection h9 with _ h9; exact e h9)]
    exact h.c i x hi
/-- read's memory: what is asked, the corner, the places -/
structure ReadAt (w W : World) (G : Nat) (m : P3) (x0 x1 x2 : Int) : Prop where
  q : SlotN W w.heap.size [.int .i64 m.a, .int .i64 m.b, .int .i64 m.c]
  r : SlotN W (w.heap.size + 1) [.int .i64 0, .int .i64 0, .int .i64 0]
  p : SlotN W G [.int .i64 x0, .int .i64 x1, .int .i64 x2]
  b : Below w.heap.size w W
  g : w.heap.size + 2 ≤ G
  z : G < W.heap.size
theorem ReadAt.below {w W W' : World} {G : Nat} {m : P3} {x0 x1 x2 : Int} (h : ReadAt w W G m x0 x1 x2) (hb : Below W.heap.size W W') : ReadAt w W' G m x0 x1 x2 := by
  have := h.z
  have := h.g
  exact ⟨h.q.below hb (by omega), h.r.below hb (by omega), h.p.below hb h.z, h.b.trans (hb.mono h.b.size), h.g, Nat.lt_of_lt_of_le h.z hb.size⟩
theorem ReadAt.set {w W : World} {G : Nat} {m : P3} {x0 x1 x2 : Int} (h : ReadAt w W G m x0 x1 x2) (k : Nat) (hk : k < 3) (v : Int) : ReadAt w (W.setCell ⟨G, k, none⟩ (.int .i64 v)) G m (if k = 0 then v else x0) (if k = 1 then v else x1) (if k = 2 then v else x2) := by
  have := h.g
  have hb : Below G W (W.setCell ⟨G, k, none⟩ (.int .i64 v)) := (Below.refl _ _).setCell (p := ⟨G, k, none⟩) (Nat.le_refl _) _
  have hp := h.p.set3 k hk (.int .i64 v)
  have e : [Value.int .i64 x0, .int .i64 x1, .int .i64 x2].set k (.int .i64 v) = [.int .i64 (if k = 0 then v else x0), .int .i64 (if k = 1 then v else x1), .int .i64 (if k = 2 then v else x2)] := by
    rcases (show k = 0 ∨ k = 1 ∨ k = 2 by omega) with rfl | rfl | rfl <;> simp
  rw [e] at hp
  exact ⟨h.q.below hb (by omega), h.r.below hb (by omega), hp, h.b.trans (hb.mono (by omega)), h.g, by simpa using h.z⟩

theorem atK_step (ls : List (List UInt8)) (m0 m1 m2 mk v : Int) (k : Nat) (hk : [m0, m1, m2][k]? = some mk) (hv : (partR ls k mk).1 = v) :
    (if k = 0 then v else atK ls 0 m0 k) = atK ls 0 m0 (k + 1) ∧ (if k = 1 then v else atK ls 1 m1 k) = atK ls 1 m1 (k + 1) ∧ (if k = 2 then v else atK ls 2 m2 k) = atK ls 2 m2 (k + 1) := by
  have h3 : k < 3 := by have := (List.getElem?_eq_some_iff.1 hk).1; simpa using this
  rcases (show k = 0 ∨ k = 1 ∨ k = 2 by omega) with rfl | rfl | rfl <;> simp at hk <;> subst hk <;> subst hv <;> simp [atK]
theorem atK_same (ls : List (List UInt8)) (m0 m1 m2 mk : Int) (k : Nat) (hk : [m0, m1, m2][k]? = some mk) (hv : (partR ls k mk).1 = -1) :
    atK ls 0 m0 k = atK ls 0 m0 (k + 1) ∧ atK ls 1 m1 k = atK ls 1 m1 (k + 1) ∧ atK ls 2 m2 k = atK ls 2 m2 (k + 1) := by
  have h3 : k < 3 := by have := (List.getElem?_eq_some_iff.1 hk).1; simpa using this
  rcases (show k = 0 ∨ k = 1 ∨ k = 2 by omega) with rfl | rfl | rfl <;> simp at hk <;> subst hk <;> simp [atK, hv]
def NoErr (ls : List (List UInt8)) (m0 m1 m2 : Int) (k : Nat) : Prop := (0 < k → (partR ls 0 m0).2 = 0) ∧ (1 < k → (partR ls 1 m1).2 = 0) ∧ (2 < k → (partR ls 2 m2).2 = 0)
theorem NoErr.step {ls : List (List UInt8)} {m0 m1 m2 mk : Int} {k : Nat} (h : NoErr ls m0 m1 m2 k) (hk : [m0, m1, m2][k]? = some mk) (hv : (partR ls k mk).2 = 0) : NoErr ls m0 m1 m2 (k + 1) := by
  have h3 : k < 3 := by have := (List.getElem?_eq_some_iff.1 hk).1; simpa using this
  obtain ⟨a, b, c⟩ := h
  rcases (show k = 0 ∨ k = 1 ∨ k = 2 by omega) with rfl | rfl | rfl <;> simp at hk <;> subst hk
  · exact ⟨fun _ => hv, fun h => by omega, fun h => by omega⟩
  · exact ⟨fun _ => a (by omega), fun _ => hv, fun h => by omega⟩
  · exact ⟨fun _ => a (by omega), fun _ => b (by omega), fun _ => hv⟩
theorem NoErr.err {ls : List (List UInt8)} {m0 m1 m2 mk : Int} {k : Nat} (h : NoErr ls m0 m1 m2 k) (hf : formOk ls = true) (hk : [m0, m1, m2][k]? = some mk) (hv : (partR ls k mk).2 ≠ 0) : readR ls ⟨m0, m1, m2⟩ = (⟨0, 0, 0⟩, (partR ls k mk).2) := by
  have h3 : k < 3 := by have := (List.getElem?_eq_some_iff.1 hk).1; simpa using this
  obtain ⟨a, b, c⟩ := h
  rcases (show k = 0 ∨ k = 1 ∨ k = 2 by omega) with rfl | rfl | rfl <;> simp at hk <;> subst hk
  · exact readR_e0 ls ⟨_, _, _⟩ hf hv
  · exact readR_e1 ls ⟨_, _, _⟩ hf (a (by omega)) hv
  · exact readR_e2 ls ⟨_, _, _⟩ hf (a (by omega)) (b (by omega)) hv
theorem NoErr.done {ls : List (List UInt8)} {m0 m1 m2 : Int} (h : NoErr ls m0 m1 m2 ls.length) (hf : formOk ls = true) : readR ls ⟨m0, m1, m2⟩ = (⟨atK ls 0 m0 ls.length, atK ls 1 m1 ls.length, atK ls 2 m2 ls.length⟩, 0) := by
  obtain ⟨a, b, c⟩ := h
  have e0 : (partR ls 0 m0).2 = 0 := by
    by_cases h : 0 < ls.length
    · exact a h
    · rw [part_out ls 0 m0 (by omega)]
  have e1 : (partR ls 1 m1).2 = 0 := by
    by_cases h : 1 < ls.length
    · exact b h
    · rw [part_out ls 1 m1 (by omega)]
  have e2 : (partR ls 2 m2).2 = 0 := by
    by_cases h : 2 < ls.length
    · exact c h
    · rw [part_out ls 2 m2 (by omega)]
  have f : ∀ j m, atK ls j m ls.length = (partR ls j m).1 := fun j m => by
    unfold atK
    by_cases h : j < ls.length
    · rw [if_pos h]
    · rw [if_neg h, part_out ls j m (by omega)]
  rw [readR_ok ls ⟨m0, m1, m2⟩ hf e0 e1 e2, f, f, f]

set_option maxHeartbeats 6400000 in
theorem read_good (l : List UInt8) (m : P3) (w : World) (hl : l.length ≤ 100000) (hE : Env w) (hm : m.bd) (h : formOk (split1 47 l) = true) : Calls Tryd.prog 40 #[.string ⟨l.toArray⟩, p3V m] w (ReadRes (cornerR l m) w) := by
  have HLE := Lib.hid (split1_le 47 l)
  have HOK := Lib.hid h
  have h3 : (split1 47 l).length ≤ 3 := by
    unfold formOk at h
    simp only [Bool.and_eq_true, decide_eq_true_eq] at h
    exact h.1.1.1
  have K1 := Lib.hid (fun W hW => split_any l W hl hW)
  have K2 := Lib.hid (fun A n c W hS h1 h2 hW => form_any W.heap.size A n c (split1 47 l) W hS (Nat.le_refl _) h1 h2 (fun x hx => Nat.le_trans (split1_le 47 l x hx) hl) hW)
  rw [h] at K2
  have HE := Lib.hid hE; clear hE h
  obtain ⟨R, hR⟩ : ∃ R, R = cornerR l m := ⟨_, rfl⟩
  rw [← hR]
  have HR : Hid (R = readR (split1 47 l) m) := Lib.hid hR
  clear hR
  generalize split1 47 l = ls at *
  obtain ⟨m0, m1, m2⟩ := m
  unfold p3V OkOr at *
  simp only [if_true] at K2
  have FIN : Hid (∀ z w', Below w.heap.size w w' → R.2 = z → z ≠ 0 → ReadRes R w (Thrown z) w') := Lib.hid fun z w' hb h h0 => ⟨by rw [h, if_neg h0], hb⟩
  have FIN2 : Hid (∀ a b c w', Below w.heap.size w w' → R = (⟨a, b, c⟩, 0) → ReadRes R w (.returned (.agg #[.int .i64 a, .int .i64 b, .int .i64 c])) w') := Lib.hid fun a b c w' hb h => ⟨by rw [h]; rfl, hb⟩
  generalize hQ : ReadRes R w = Qp at FIN FIN2 ⊢
  clear hQ
  unfold Thrown at FIN
  have hq0 := SlotN.new w [.int .i64 m0, .int .i64 m1, .int .i64 m2] #[.int .i64 m0, .int .i64 m1, .int .i64 m2] 62 rfl
  have hr0 := SlotN.new (w.alloc (.cells #[.int .i64 m0, .int .i64 m1, .int .i64 m2] 62)) [.int .i64 0, .int .i64 0, .int .i64 0] #[.int .i64 0, .int .i64 0, .int .i64 0] 26 rfl
  have hb1 : Below (w.heap.size + 1) (w.alloc (.cells #[.int .i64 m0, .int .i64 m1, .int .i64 m2] 62)) ((w.alloc (.cells #[.int .i64 m0, .int .i64 m1, .int .i64 m2] 62)).alloc (.cells #[.int .i64 0, .int .i64 0, .int .i64 0] 26)) := (Below.refl _ _).alloc (by simp) _
  have hq1 := hq0.below hb1 (by omega)
  rw [World.size_alloc] at hr0
  have hb0 : Below w.heap.size w ((w.alloc (.cells #[.int .i64 m0, .int .i64 m1, .int .i64 m2] 62)).alloc (.cells #[.int .i64 0, .int .i64 0, .int .i64 0] 26)) := ((Below.refl _ _).alloc (Nat.le_refl _) _).alloc (by simp) _
  have hz0 : ((w.alloc (.cells #[.int .i64 m0, .int .i64 m1, .int .i64 m2] 62)).alloc (.cells #[.int .i64 0, .int .i64 0, .int .i64 0] 26)).heap.size = w.heap.size + 2 := by simp
  clear hq0 hb1
  go_enter Tryd.func40, Tryd.ntmps40
  go_wp2_with fail
  generalize (w.alloc (.cells #[.int .i64 m0, .int .i64 m1, .int .i64 m2] 62)).alloc (.cells #[.int .i64 0, .int .i64 0, .int .i64 0] 26) = W0 at hb0 hz0 hq1 hr0 ⊢
  have HB := Lib.hid hb0; clear hb0
  have HQ := Lib.hid hq1; clear hq1
  have HRR := Lib.hid hr0; clear hr0
  refine (K1.out _ (HE.out.on HB.out)).mono ?_
  clear K1
  rintro e w1 ⟨A, n, c, rfl, h1, h2, hS, hb1⟩
  have HB := Lib.hid (HB.out.trans (hb1.mono HB.out.size))
  have HQ := Lib.hid (HQ.out.below hb1 (by omega))
  have HRR := Lib.hid (HRR.out.below hb1 (by omega))
  have hz1 := hb1.size
  have K2 := Lib.hid (K2.out A n c w1 hS h1 (by omega) (HE.out.on HB.out))
  have HS := Lib.hid hS
  clear hS hb1
  go_wp2_with fail
  refine K2.out.mono ?_
  clear K2
  rintro e w2 ⟨rfl, hb1⟩
  have HB := Lib.hid (HB.out.trans (hb1.mono HB.out.size))
  have HQ := Lib.hid (HQ.out.below hb1 (by omega))
  have HRR := Lib.hid (HRR.out.below hb1 (by omega))
  have HS := Lib.hid ((HS.out.below hb1 (Nat.le_refl _)).more hb1.size)
  have hz2 := hb1.size
  have hln : Hid (ls.length = n) := Lib.hid HS.out.length
  have hn3 : n ≤ 3 := by rw [← hln.out]; exact h3
  clear hb1 h3
  have hp := SlotN.new w2 [.int .i64 (-1), .int .i64 (-1), .int .i64 (-1)] #[.int .i64 (-1), .int .i64 (-1), .int .i64 (-1)] 62 rfl
  have hbp : Below w2.heap.size w2 (w2.alloc (.cells #[.int .i64 (-1), .int .i64 (-1), .int .i64 (-1)] 62)) := (Below.refl _ _).alloc (Nat.le_refl _) _
  go_wp2_with fail
  have hra : Hid (ReadAt w (w2.alloc (.cells #[.int .i64 (-1), .int .i64 (-1), .int .i64 (-1)] 62)) w2.heap.size ⟨m0, m1, m2⟩ (atK ls 0 m0 0) (atK ls 1 m1 0) (atK ls 2 m2 0)) := Lib.hid
    ⟨HQ.out.below hbp (by omega), HRR.out.below hbp (by omega), hp, HB.out.trans (hbp.mono HB.out.size), by omega, by simp⟩
  have HBP := Lib.hid hbp; clear hbp hp
  obtain ⟨G, hG⟩ : ∃ G, G = w2.heap.size := ⟨_, rfl⟩
  rw [← hG] at hra HBP HS ⊢
  have HG := Lib.hid hG; clear hG
  have HMB := Lib.hid hm; clear hm
  go_loopw [18] (fun i wr => ∃ k : Nat, k ≤ n ∧ i = .int .i64 k ∧ Hid (ReadAt w wr G ⟨m0, m1, m2⟩ (atK ls 0 m0 k) (atK ls 1 m1 k) (atK ls 2 m2 k)) ∧ Hid (NoErr ls m0 m1 m2 k) ∧ Hid (Below G w2 wr)) (fun i _ => n - (intOf i).toNat)
  case atStart => exact ⟨0, Nat.zero_le _, rfl, hra, Lib.hid ⟨fun h => by omega, fun h => by omega, fun h => by omega⟩, HBP⟩
  case round =>
    clear hra HBP
    obtain ⟨k, hk, rfl, hR, hN, hBG⟩ := hrel
    by_cases hlt : k < n
    · have t0 : decide ((k : Int) < (n : Int)) = true := decide_eq_true (by omega)
      have hk3 : k < 3 := by omega
      obtain ⟨ad, lk, rfl, hbk, hx, hmx, hc⟩ := (HS.out.below hBG.out (Nat.le_refl _)).get hlt
      obtain ⟨mk, hmk⟩ : ∃ mk, [m0, m1, m2][k]? = some mk := ⟨_, List.getElem?_eq_getElem (by simpa using hk3)⟩
      have hmb : i64b mk := by
        obtain ⟨b0, b1, b2⟩ := HMB.out
        rcases (show k = 0 ∨ k = 1 ∨ k = 2 by omega) with rfl | rfl | rfl <;> simp at hmk <;> subst hmk
        · exact b0
        · exact b1
        · exact b2
      have cm : wr.cell? ⟨w.heap.size, k, none⟩ = some (.int .i64 mk) := hR.out.q.c k _ (by
        rcases (show k = 0 ∨ k = 1 ∨ k = 2 by omega) with rfl | rfl | rfl <;> simp at hmk <;> subst hmk <;> rfl)
      have hpe := part_in ls k mk lk hx
      have hll : lk.length ≤ 100000 := Nat.le_trans (HLE.out lk hmx) hl
      have K := Lib.hid (fun W hW => place2_any lk mk W hll hmb hW)
      obtain ⟨v, er, hv⟩ : ∃ v e, placeR lk mk = (v, e) := ⟨_, _, rfl⟩
      rw [hv] at K hpe
      unfold NE2 at K
      have HMK := Lib.hid hmk
      have HPE := Lib.hid hpe
      have a1 : (⟨w.heap.size, 0, none⟩ : Addr).add k = ⟨w.heap.size, k, none⟩ := addr_lit _ _
      have a2 : (⟨G, 0, none⟩ : Addr).add k = ⟨G, k, none⟩ := addr_lit _ _
      clear hx hmx hv hpe hmk hll hmb
      have k0 : (0 : Int) ≤ (k : Int) := by omega
      have k3 : (k : Int) < 3 := by omega
      cases lk with
      | nil =>
        obtain ⟨s1, s2, s3⟩ := atK_same ls m0 m1 m2 mk k HMK.out (by rw [HPE.out]; rfl)
        have hR2 : Hid (ReadAt w wr G ⟨m0, m1, m2⟩ (atK ls 0 m0 (k + 1)) (atK ls 1 m1 (k + 1)) (atK ls 2 m2 (k + 1))) := Lib.hid (by rw [← s1, ← s2, ← s3]; exact hR.out)
        have hN2 := Lib.hid (hN.out.step HMK.out (by rw [HPE.out]; rfl))
        clear s1 s2 s3
        go_wp2_with fail
        go_roundw
        case rel => exact ⟨k + 1, by omega, by go_num, hR2, hN2, hBG⟩
        case measure => simp only [intOf]; omega
      | cons a r =>
        have HPE : Hid (partR ls k mk = (v, er)) := Lib.hid (by rw [HPE.out]; rfl)
        go_wp2_with fail
        refine (K.out _ (HE.out.on hR.out.b)).mono ?_
        clear K hc cm
        rintro e w3 ⟨rfl, hb1⟩
        have hR := Lib.hid (hR.out.below hb1)
        have hBG := Lib.hid (hBG.out.trans (hb1.mono (by have := hBG.out.size; have := HG.out; omega)))
        clear hb1
        by_cases he : er = 0
        · subst he
          obtain ⟨s1, s2, s3⟩ := atK_step ls m0 m1 m2 mk v k HMK.out (by rw [HPE.out])
          have hR2 := Lib.hid (hR.out.set k hk3 v)
          rw [s1, s2, s3] at hR2
          have hN2 := Lib.hid (hN.out.step HMK.out (by rw [HPE.out]))
          have hBG2 : Hid (Below G w2 (w3.setCell ⟨G, k, none⟩ (.int .i64 v))) := Lib.hid (hBG.out.setCell (p := ⟨G, k, none⟩) (Nat.le_refl _) _)
          obtain ⟨u0, hu0⟩ : ∃ u, w3.cell? ⟨G, k, none⟩ = some u := ⟨_, hR.out.p.c k _ (List.getElem?_eq_getElem (by simpa using hk3))⟩
          have f0 := hR.out.p.f k
          clear s1 s2 s3
          go_wp2_with fail
          refine (must_ok _).mono ?_
          rintro e w4 ⟨rfl, rfl⟩
          go_wp2_with fail
          go_roundw
          case rel => exact ⟨k + 1, by omega, by go_num, hR2, hN2, hBG2⟩
          case measure => simp only [intOf]; omega
        · have herr : Hid (R.2 = er) := Lib.hid (by rw [HR.out, hN.out.err HOK.out HMK.out (by rw [HPE.out]; exact he), HPE.out])
          have KM := Lib.hid (fun W => must_bad er W he)
          have he2 := Lib.hid he
          unfold Thrown at KM
          clear he
          go_wp2_with fail
          refine (KM.out _).mono ?_
          clear KM
          rintro e w4 ⟨rfl, rfl⟩
          go_wp2_with fail
          exact ⟨rfl, FIN.out _ _ hR.out.b herr.out he2.out⟩
    · have t0 : decide ((k : Int) < (n : Int)) = false := decide_eq_false (by omega)
      obtain rfl : n = k := by omega
      have hfin : Hid (R = (⟨atK ls 0 m0 n, atK ls 1 m1 n, atK ls 2 m2 n⟩, 0)) := Lib.hid (by
        have := hN.out
        rw [← hln.out] at this ⊢
        rw [HR.out]; exact this.done HOK.out)
      generalize atK ls 0 m0 n = x0 at *
      generalize atK ls 1 m1 n = x1 at *
      generalize atK ls 2 m2 n = x2 at *
      have c0 := hR.out.p.c 0 _ rfl
      have c1 := hR.out.p.c 1 _ rfl
      have c2 := hR.out.p.c 2 _ rfl
      have d0 := hR.out.r.c 0 _ rfl
      have d1 := hR.out.r.c 1 _ rfl
      have d2 := hR.out.r.c 2 _ rfl
      have f0 := hR.out.r.f 0
      have f1 := hR.out.r.f 1
      have f2 := hR.out.r.f 2
      have HB9 := Lib.hid hR.out.b
      have hG2 := hR.out.g
      go_wp2_with fail
      refine bodyPost_ret (v := .agg #[.int .i64 x0, .int .i64 x1, .int .i64 x2]) (by simp [results, Tryd.results40, go_sem, d0, d1, d2]) rfl (FIN2.out _ _ _ _ ?_ hfin.out)
      exact ((HB9.out.setCell (p := ⟨w.heap.size + 1, 0, none⟩) (by simp) _).setCell (p := ⟨w.heap.size + 1, 1, none⟩) (by simp) _).setCell (p := ⟨w.heap.size + 1, 2, none⟩) (by simp) _
theorem read_any (l : List UInt8) (m : P3) (w : World) (hl : l.length ≤ 100000) (hE : Env w) (hm : m.bd) : Calls Tryd.prog 40 #[.string ⟨l.toArray⟩, p3V m] w (ReadRes (cornerR l m) w) := by
  cases h : formOk (split1 47 l) with
  | false => exact read_form l m w hl hE h
  | true => exact read_good l m w hl hE hm h
end Go.Proofs.YtkdffcoofijhkaaDoor
