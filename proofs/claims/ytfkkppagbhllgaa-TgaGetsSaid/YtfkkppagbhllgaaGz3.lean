/-
  THE STEPS OF tga.Put.
-/
import Derived.Test.YtfkkppagbhllgaaGz2
import Derived.Test.YtfkkppagbhllgaaProg
import Derived.StillTailTactics
import Derived.RegionTactic
import Derived.BigRegion
import Derived.Lib.BufferWrite
set_option linter.unusedVariables false
set_option linter.unusedSimpArgs false
set_option maxRecDepth 8000
namespace Go.Proofs.Ytfkkppagbhllgaa
open Go.RowKit

/-- The slice '.slice A n c' reads as the bytes l; its block lies below B. -/
structure Byts (w : World) (B : Nat) (A : Option Addr) (n : Nat) (l : List UInt8) : Prop where
  rd : Rd w B 1 A n (Lib.byteCells l)
  len : n ≤ 9223372036854775807
theorem Byts.length {w : World} {B n : Nat} {A : Option Addr} {l : List UInt8} (h : Byts w B A n l) : l.length = n := by have := h.rd.1; rw [bytes_len] at this; omega
theorem Byts.below {w w' : World} {B n : Nat} {A : Option Addr} {l : List UInt8} (h : Byts w B A n l) {b : Nat} (hb : Below b w w') (hB : B ≤ b) : Byts w' B A n l := ⟨h.rd.below hb hB, h.len⟩
theorem Byts.more {w : World} {B B' n : Nat} {A : Option Addr} {l : List UInt8} (h : Byts w B A n l) (hB : B ≤ B') : Byts w B' A n l := ⟨h.rd.more hB, h.len⟩
/-- a stretch of them, made a text -/
theorem Byts.text {w : World} {B n : Nat} {A : Option Addr} {l : List UInt8} (h : Byts w B A n l) (i k cap : Nat) (hk : 0 < k) (hi : i + k ≤ n) : ∃ ad, A = some ad ∧ ad.block < B ∧
    (convert 22 9 (.slice (some (ad.add i)) k cap)).run Try.prog w = .ok (.string ⟨((l.drop i).take k).toArray⟩) w := by
  obtain ⟨ad, e, hb, hc⟩ := h.rd.2 (by omega)
  have hl := h.length
  refine ⟨ad, e, hb, ?_⟩
  have hlen : ((l.drop i).take k).length = k := by rw [List.length_take, List.length_drop]; omega
  have := run_convert_bytes_back (P := Try.prog) w 22 9 5 (ad.add i) cap ((l.drop i).take k) Try.underlying22 Try.underlying5 Try.underlying9 fun j hj => by
    rw [addr_add_add]
    refine hc (i + j) _ ?_
    rw [hlen] at hj
    have hij : i + j < l.length := by omega
    simp [Lib.byteCells, List.getElem?_eq_getElem hij]
  rwa [hlen] at this
theorem put1_any (s : List UInt8) (w : World) : Calls Try.prog 27 #[.string ⟨s.toArray⟩] w (SR w s) := by
  unfold SR
  go_enter Try.func27, Try.ntmps27
  go_wp2_with fail
  go_ret
  exact ⟨rfl, Below.refl _ _⟩
theorem put2_any (g z : Nat) (s : List UInt8) (w : World) (hg : w.cell? ⟨g, 0, none⟩ = some (.int .i64 (z : Int))) (hz : z = 3 ∨ z = 4) (hl : s.length ≤ 1000000) (hm : s.length = manyT z s * z) :
    Calls Try.prog 28 #[.string ⟨s.toArray⟩, .pointer (some ⟨g, 0, none⟩)] w (SR w (packT z s)) := by
  have K := Lib.hid (fun W => packed_any z s W hz hl hm)
  unfold SR rowV at *
  clear hm
  go_enter Try.func28, Try.ntmps28
  go_wp2_with fail
  refine (K.out _).mono ?_
  clear K
  rintro e w1 ⟨rfl, hb1⟩
  have HB := Lib.hid hb1; clear hb1
  go_wp2_with fail
  go_ret
  exact ⟨rfl, HB.out⟩
/-- a row of another type stays where a builder writes -/
theorem own_others {w w' : World} {base b size n : Nat} {e : TypeId} {v : Value} {xs : List Value} (h : w.ownsRow base e size v n xs) (hk : Lib.OthersKept 5 (some b) w w') (hb : b < base) (he : e ≠ 5) : w'.ownsRow base e size v n xs := by
  refine ⟨h.1, ?_⟩
  rcases h.2 with h0 | ⟨g, cap, cur, hv, hg, hh, rest⟩
  · exact .inl h0
  · refine .inr ⟨g, cap, cur, hv, hg, ?_, rest⟩
    exact hk _ _ hh (fun e => by injection e with e; omega) (fun c fz e9 => by injection e9 with _ e9; exact he e9)
def putR (p q b : Int) (d : List UInt8) (packed top : Bool) : List UInt8 × Int := if isT p q b d.length then (putT p.toNat q.toNat (b / 8).toNat d packed top, 0) else ([], 1)
theorem put_no (p q b : Int) (A : Option Addr) (n c : Nat) (packed top : Bool) (w : World) (hn : n ≤ 9223372036854775807) (h : isT p q b n = false) :
    Calls Try.prog 12 #[imV p q b A n c, .bool packed, .bool top] w (SE w [] 1) := by
  have K := Lib.hid (fun W => is_any p q b A n c W hn)
  rw [h] at K
  have hbx := SlotN.new w [.int .i64 p, .int .i64 q, .int .i64 b, .slice A n c] #[.int .i64 p, .int .i64 q, .int .i64 b, .slice A n c] 24 rfl
  have hb : Below w.heap.size w (w.alloc (.cells #[.int .i64 p, .int .i64 q, .int .i64 b, .slice A n c] 24)) := (Below.refl _ _).alloc (Nat.le_refl _) _
  have c0 := hbx.c 0 _ rfl
  have c1 := hbx.c 1 _ rfl
  have c2 := hbx.c 2 _ rfl
  have c3 := hbx.c 3 _ rfl
  unfold imV SE at *
  clear h hbx
  go_enter Try.func12, Try.ntmps12
  go_wp2_with fail
  refine (K.out _).mono ?_
  clear K
  rintro e w1 ⟨rfl, hb1⟩
  have HB := Lib.hid (hb.trans (hb1.mono hb.size))
  clear hb1 c0 c1 c2 c3 hb
  go_wp2_with fail
  go_ret2
  exact ⟨rfl, HB.out⟩
theorem slice_bytes (ad : Addr) (n c i k : Nat) (a b : Int) (ha : a = (i : Int)) (hb : b = ((i + k : Nat) : Int)) (hk : 0 < k) (h : i + k ≤ c) (W : World) :
    (Instr.slice 22 (.slice (some ad) n c) (some (.int .i64 a)) (some (.int .i64 b)) none).run Try.prog W = .ok (.slice (some (ad.add i)) k (c - i)) W := by
  subst ha; subst hb
  rw [run_slice_lh W 22 (some ad) n c (by kernel_rfl) .i64 .i64 _ _ (by omega) (by omega) (by omega)]
  rw [show Try.prog.elem 22 = 5 from by kernel_rfl, Try.sizeOf5]
  simp only [Result.andThen, sliced]
  rw [if_neg (by omega)]
  simp
  omega
theorem putRow_len {z m : Nat} {t : List UInt8} (packed : Bool) (hz : z = 3 ∨ z = 4) (hm : t.length = m * z) (hm2 : m ≤ 256) : (putRow packed z t).length ≤ 1100 := by
  have h1 : m * z ≤ 256 * 4 := Nat.mul_le_mul hm2 (by omega)
  have hmt : manyT z t = m := by unfold manyT; rw [hm]; exact Nat.mul_div_cancel _ (by omega)
  unfold putRow
  cases packed
  · simp; omega
  · have := pack_len (z := z) (s := t) (by omega) (by rw [hmt]; exact hm)
    rw [hmt] at this
    simp; omega
/-- Put's memory -/
structure PutAt (w W : World) (S K : Nat) (p q z : Nat) (A : Option Addr) (n c : Nat) (acc : List UInt8) : Prop where
  x : SlotN W w.heap.size [.int .i64 (p : Int), .int .i64 (q : Int), .int .i64 ((8 * z : Nat) : Int), .slice A n c]
  s : SlotN W S [.int .i64 (z : Int)]
  b : Bld W K K acc
  below : Below w.heap.size w W
  l1 : w.heap.size < S
  l2 : S < K
theorem PutAt.grown {w W W' : World} {S K p q z n c : Nat} {A : Option Addr} {acc : List UInt8} (h : PutAt w W S K p q z A n c acc) (hb : Below W.heap.size W W') : PutAt w W' S K p q z A n c acc := by
  have := h.b.lt.1
  have := h.l1
  have := h.l2
  exact ⟨h.x.below hb (by omega), h.s.below hb (by omega), h.b.grown hb, h.below.trans (hb.mono h.below.size), h.l1, h.l2⟩
theorem PutAt.wrote {w W W' : World} {S K p q z n c : Nat} {A : Option Addr} {acc acc' : List UInt8} (h : PutAt w W S K p q z A n c acc) (hk : Wrote W W' K K acc') : PutAt w W' S K p q z A n c acc' := by
  have := h.l1
  have := h.l2
  exact ⟨h.x.below hk.below (by omega), h.s.below hk.below (by omega), hk.is, h.below.trans (hk.below.mono (by omega)), h.l1, h.l2⟩
set_option maxHeartbeats 1600000 in
theorem put_yes (p q z : Nat) (A : Option Addr) (n c : Nat) (d : List UInt8) (packed top : Bool) (w : World) (hI : Byts w w.heap.size A n d) (hnc : n ≤ c) (hc : c ≤ 9223372036854775807) (hok : (⟨p, q, z, d⟩ : Im).ok) :
    Calls Try.prog 12 #[imV p q ((8 * z : Nat) : Int) A n c, .bool packed, .bool top] w (SE w (putT p q z d packed top) 0) := by
  obtain ⟨hp1, hp2, hq1, hq2, hz, hd⟩ := id hok
  simp only at hp1 hp2 hq1 hq2 hz hd
  have hdn := hI.length
  have his : isT p q ((8 * z : Nat) : Int) n = true := by
    unfold isT
    have h1 := form_of hok
    simp only at h1
    rw [h1, ← hdn, hd]
    have e8 : (((8 * z : Nat) : Int)) / 8 = (z : Int) := by omega
    rw [e8]; simp
  have K := Lib.hid (fun W => is_any p q ((8 * z : Nat) : Int) A n c W hI.len)
  rw [his] at K
  have KH := Lib.hid (fun W => head_any p q z A n c packed top W hp2 hq2 hz)
  have KO := Lib.hid (fun W => order_any q top W hq1 hq2)
  have hbx := SlotN.new w [.int .i64 (p : Int), .int .i64 (q : Int), .int .i64 ((8 * z : Nat) : Int), .slice A n c] #[.int .i64 (p : Int), .int .i64 (q : Int), .int .i64 ((8 * z : Nat) : Int), .slice A n c] 24 rfl
  have hb : Below w.heap.size w (w.alloc (.cells #[.int .i64 (p : Int), .int .i64 (q : Int), .int .i64 ((8 * z : Nat) : Int), .slice A n c] 24)) := (Below.refl _ _).alloc (Nat.le_refl _) _
  have hz1 : w.heap.size < (w.alloc (.cells #[.int .i64 (p : Int), .int .i64 (q : Int), .int .i64 ((8 * z : Nat) : Int), .slice A n c] 24)).heap.size := by simp
  have c0 := hbx.c 0 _ rfl
  have c1 := hbx.c 1 _ rfl
  have c2 := hbx.c 2 _ rfl
  have c3 := hbx.c 3 _ rfl
  have td : (((8 * z : Nat) : Int)).tdiv 8 = (z : Int) := by rw [Int.tdiv_eq_ediv_of_nonneg (by omega)]; omega
  obtain ⟨pz, hpz⟩ : ∃ pz, pz = p * z := ⟨_, rfl⟩
  have epz : (p : Int) * (z : Int) = (pz : Int) := by rw [hpz]; simp
  have hpz2 : pz ≤ 1024 := by rw [hpz]; exact Nat.le_trans (Nat.mul_le_mul hp2 (show z ≤ 4 by omega)) (by decide)
  have HPZ := Lib.hid hpz; clear hpz
  have hzz : ((8 * z : Nat) : Int) = 24 ∨ ((8 * z : Nat) : Int) = 32 := by omega
  unfold imV SE at *
  clear his
  generalize hz8 : ((8 * z : Nat) : Int) = zz at *
  have HZ8 := Lib.hid hz8; clear hz8
  cases packed with
  | false =>
    go_enter Try.func12, Try.ntmps12
    go_wp2_with fail
    generalize w.alloc (.cells #[.int .i64 (p : Int), .int .i64 (q : Int), .int .i64 zz, .slice A n c] 24) = W0 at *
    refine (K.out _).mono ?_
    clear K
    rintro e w1 ⟨rfl, hb1⟩
    have hx1 := hbx.below hb1 hz1
    have hB1 := hb.trans (hb1.mono hb.size)
    have hlt1 : w.heap.size < w1.heap.size := Nat.lt_of_lt_of_le hz1 hb1.size
    clear c0 c1 c2 c3 hb1 hbx hb hz1
    have c0 := hx1.c 0 _ rfl
    have c1 := hx1.c 1 _ rfl
    have c2 := hx1.c 2 _ rfl
    have c3 := hx1.c 3 _ rfl
    have s1 := SlotN.new w1 [.int .i64 (z : Int)] #[.int .i64 (z : Int)] 3 rfl
    have e1 : Below w1.heap.size w1 (w1.alloc (.cells #[.int .i64 (z : Int)] 3)) := (Below.refl _ _).alloc (Nat.le_refl _) _
    have hB2 := Bld.new (w1.alloc (.cells #[.int .i64 (z : Int)] 3)) (w1.heap.size + 1) (w1.heap.size + 1) (by simp) (Nat.le_refl _)
    have e2 : Below (w1.heap.size + 1) (w1.alloc (.cells #[.int .i64 (z : Int)] 3)) ((w1.alloc (.cells #[.int .i64 (z : Int)] 3)).alloc (.cells #[.pointer none, .slice none 0 0] 52)) := (Below.refl _ _).alloc (by simp) _
    have hP : PutAt w ((w1.alloc (.cells #[.int .i64 (z : Int)] 3)).alloc (.cells #[.pointer none, .slice none 0 0] 52)) w1.heap.size (w1.heap.size + 1) p q z A n c [] :=
      ⟨by rw [HZ8.out]; exact (hx1.below e1 hlt1).below e2 (by omega), s1.below e2 (by omega), hB2, (hB1.trans (e1.mono (by omega))).trans (e2.mono (by omega)), hlt1, by omega⟩
    have HP := Lib.hid hP
    clear s1 e1 hB2 e2 hP hx1 hB1
    go_wp2_with fail
    generalize (w1.alloc (.cells #[.int .i64 (z : Int)] 3)).alloc (.cells #[.pointer none, .slice none 0 0] 52) = V1 at *
    clear c0 c1 c2 c3
    refine (KH.out _).mono ?_
    clear KH
    rintro e V2 ⟨rfl, hb2⟩
    have HP := Lib.hid (HP.out.grown hb2)
    have KW := Lib.hid (wstr_any (w1.heap.size + 1) (w1.heap.size + 1) [] (headT p q z false top) V2 HP.out.b (by simp [headT_len]) (Nat.le_of_lt HP.out.b.lt.1))
    clear hb2
    go_wp2_with fail
    refine KW.out.mono ?_
    clear KW
    rintro e V3 ⟨rfl, hw3⟩
    have HP := Lib.hid (HP.out.wrote hw3)
    clear hw3
    have HX := Lib.hid HP.out.x
    rw [HZ8.out] at HX
    have c0 := HX.out.c 0 _ rfl
    have c1 := HX.out.c 1 _ rfl
    have c3 := HX.out.c 3 _ rfl
    have cs := HP.out.s.c 0 _ rfl
    clear HX
    go_wp2_with fail
    refine (KO.out _).mono ?_
    clear KO
    rintro e V4 ⟨Ao, co, rfl, hro, hb4⟩
    have hKg : w1.heap.size + 1 < V3.heap.size := HP.out.b.lt.1
    have HP := Lib.hid (HP.out.grown hb4)
    obtain ⟨g, rfl, hg1, hg2, hg3, _⟩ := own_cells hro (by omega)
    have HRO := Lib.hid hro
    clear hro hb4 c0 c1 c3 cs
    go_wp2_with fail
    go_loopw [36] (fun i wr => ∃ k : Nat, k ≤ q ∧ i = .int .i64 (k : Int) ∧ Hid (PutAt w wr w1.heap.size (w1.heap.size + 1) p q z A n c (headT p q z false top ++ (List.range k).flatMap fun i => putRow false z (turnedT z (rowT p z d (ordT q top i))))) ∧ Hid (wr.ownsRow V3.heap.size 3 1 (.slice (some ⟨g, 0, none⟩) q co) q (cellsI (ordL q top))) ∧ Hid ((headT p q z false top ++ (List.range k).flatMap fun i => putRow false z (turnedT z (rowT p z d (ordT q top i)))).length ≤ 18 + k * 1100)) (fun i _ => q - (intOf i).toNat)
    case atStart => exact ⟨0, by omega, rfl, Lib.hid (by simpa using HP.out), HRO, Lib.hid (by simp [headT_len])⟩
    case round =>
      clear HP HRO
      obtain ⟨k, hk, rfl, HP, HRO, HAL⟩ := hrel
      have HX := Lib.hid HP.out.x
      rw [HZ8.out] at HX
      have c3 := HX.out.c 3 _ rfl
      have cs := HP.out.s.c 0 _ rfl
      clear HX
      by_cases hlt : k < q
      · have t0 : decide ((k : Int) < (q : Int)) = true := decide_eq_true (by omega)
        have k0 : (0 : Int) ≤ (k : Int) := by omega
        have k1 : (k : Int) < (q : Int) := by omega
        obtain ⟨y, hy⟩ : ∃ y, y = ordT q top k := ⟨_, rfl⟩
        have hyq : y < q := by rw [hy]; exact ordT_lt top hlt
        have a0 : (⟨g, 0, none⟩ : Addr).add k = ⟨g, k, none⟩ := addr_lit _ _
        have cy : wr.cell? ⟨g, k, none⟩ = some (.int .i64 (y : Int)) := by
          have := HRO.out.cells (g := g) rfl k (.int .i64 (y : Int)) (by rw [cellsI_get]; unfold ordL; rw [List.getElem?_map, List.getElem?_range hlt, hy]; rfl)
          rwa [a0] at this
        have hnq : n = pz * q := by rw [← hdn, hd, HPZ.out, Nat.mul_right_comm]
        have hi1 : pz * y + pz ≤ n := by rw [hnq, ← Nat.mul_succ]; exact Nat.mul_le_mul_left _ hyq
        have hn9 : n ≤ 262144 := by rw [hnq]; exact Nat.le_trans (Nat.mul_le_mul hpz2 hq2) (by decide)
        have HY := Lib.hid hy; clear hy
        have HNQ := Lib.hid hnq; clear hnq
        obtain ⟨i0, hi0⟩ : ∃ i0, i0 = pz * y := ⟨_, rfl⟩
        have ey1 : (pz : Int) * (y : Int) = (i0 : Int) := by rw [hi0]; simp
        have ey2 : (pz : Int) * ((y : Int) + 1) = (i0 : Int) + (pz : Int) := by rw [Int.mul_add, ey1]; simp
        rw [← hi0] at hi1
        have HI0 := Lib.hid hi0; clear hi0
        have hpz0 : 0 < pz := by rw [HPZ.out]; exact Nat.mul_pos (by omega) (by omega)
        obtain ⟨ad, rfl, had, _⟩ := (hI.below HP.out.below (Nat.le_refl _)).text i0 pz (c - i0) hpz0 hi1
        obtain ⟨X, hX⟩ : ∃ X, X = (d.drop i0).take pz := ⟨_, rfl⟩
        have hXl : X.length = p * z := by rw [hX, List.length_take, List.length_drop, hdn, ← HPZ.out]; omega
        have HCV : Hid (∀ W', Below w.heap.size w W' → (convert 22 9 (.slice (some (ad.add i0)) pz (c - i0))).run Try.prog W' = .ok (.string ⟨X.toArray⟩) W') := Lib.hid fun W' hW' => by
          obtain ⟨ad', e, _, h⟩ := (hI.below hW' (Nat.le_refl _)).text i0 pz (c - i0) hpz0 hi1
          injection e with e; subst e
          rw [hX]; exact h
        have HXX : Hid (X = rowT p z d (ordT q top k)) := Lib.hid (by rw [hX, HI0.out, HPZ.out, HY.out]; rfl)
        have KT := Lib.hid (fun W => turned_any z p X W hz (by rw [hXl, ← HPZ.out]; omega) hXl hp1)
        have hTl : (turnedT z X).length = p * z := by rw [turnedT_len]; exact hXl
        have HRL : Hid ((putRow false z (turnedT z X)).length ≤ 1100) := Lib.hid (putRow_len false hz hTl hp2)
        have HSL := fun W => slice_bytes ad n c i0 pz (i0 : Int) ((i0 : Int) + (pz : Int)) rfl (by simp) hpz0 (by omega) W
        have hal : (headT p q z false top ++ (List.range k).flatMap fun i => putRow false z (turnedT z (rowT p z d (ordT q top i)))).length ≤ 300000 := by have := HAL.out; omega
        have HACC : Hid ((headT p q z false top ++ (List.range k).flatMap fun i => putRow false z (turnedT z (rowT p z d (ordT q top i)))) ++ putRow false z (turnedT z X) = headT p q z false top ++ (List.range (k + 1)).flatMap fun i => putRow false z (turnedT z (rowT p z d (ordT q top i)))) := Lib.hid (by
          rw [List.range_succ, List.flatMap_append, HXX.out]; simp)
        have HAL2 : Hid (((headT p q z false top ++ (List.range k).flatMap fun i => putRow false z (turnedT z (rowT p z d (ordT q top i)))) ++ putRow false z (turnedT z X)).length ≤ 18 + (k + 1) * 1100) := Lib.hid (by rw [List.length_append]; have := HRL.out; have := HAL.out; omega)
        rw [HACC.out] at HAL2
        clear HAL
        generalize (headT p q z false top ++ (List.range k).flatMap fun i => putRow false z (turnedT z (rowT p z d (ordT q top i)))) = acc at *
        skip
        have HTL := Lib.hid hTl
        have hci : ¬ c = i0 := by omega
        have e9 : ((i0 : Int) + (pz : Int)).toNat - i0 = pz := by omega
        have b0 : (0 : Int) ≤ (i0 : Int) := by omega
        have b1 : (i0 : Int) ≤ (i0 : Int) + (pz : Int) := by omega
        have b2 : (i0 : Int) + (pz : Int) ≤ (c : Int) := by omega
        have w1' : IntKind.i64.wrap (i0 : Int) = (i0 : Int) := by rw [IntKind.wrap_i64]; omega
        have w2' : IntKind.i64.wrap ((y : Int) + 1) = (y : Int) + 1 := by rw [IntKind.wrap_i64]; omega
        have w3' : IntKind.i64.wrap ((i0 : Int) + (pz : Int)) = (i0 : Int) + (pz : Int) := by rw [IntKind.wrap_i64]; omega
        clear HSL
        have cv0 := HCV.out _ HP.out.below
        have HPX := HP
        have HRX := HRO
        have HM1 : Hid (manyT z (turnedT z X) = p) := Lib.hid (by unfold manyT; rw [hTl]; exact Nat.mul_div_cancel _ (by omega))
        have HTM : Hid ((turnedT z X).length = manyT z (turnedT z X) * z) := Lib.hid (by rw [HM1.out, hTl])
        have HPL : Hid (p * z ≤ 1024) := Lib.hid (by rw [← HPZ.out]; exact hpz2)
        clear hXl hX hTl had
        go_wp2_with fail
        go_region_held3 (fun w' => w'.cell? ⟨w.heap.size, 3, none⟩ = some (.slice (some ad) n c) ∧ w'.cell? ⟨w1.heap.size, 0, none⟩ = some (.int .i64 (z : Int)) ∧ (convert 22 9 (.slice (some (ad.add i0)) pz (c - i0))).run Try.prog w' = .ok (.string ⟨X.toArray⟩) w')
          (refine ⟨?_, ?_, ?_⟩ <;> (first | with_reducible assumption | exact HPX.out.x.c 3 _ rfl | exact HPX.out.s.c 0 _ rfl | exact HCV.out _ HPX.out.below.drew | exact HCV.out _ HPX.out.below))
          (first
            | (go_at_call 33; refine (KT.out _).mono ?_; clear KT; rintro e wx ⟨rfl, hbx⟩; have HPX := Lib.hid (HPX.out.grown ((Below.refl _ wr).drew.trans (hbx.mono (by simp)))); have HRX := Lib.hid (own_below HRX.out ((Below.refl _ wr).drew.trans (hbx.mono (by simp))) (Nat.le_refl _)))
            | (go_at_call 27; refine (put1_any _ _).mono ?_; rintro e wy ⟨rfl, hby⟩; have HPX := Lib.hid (HPX.out.grown hby); have HRX := Lib.hid (own_below HRX.out hby (Nat.le_refl _)))
            | (go_at_call 30; refine (wstr_any (w1.heap.size + 1) (w1.heap.size + 1) acc (putRow false z (turnedT z X)) _ HPX.out.b (by have := HRL.out; omega) (by have := HPX.out.b.lt.1; omega)).mono ?_; rintro e wz ⟨rfl, hwz⟩; have HPX := Lib.hid (HPX.out.wrote hwz); have HRX := Lib.hid (own_others HRX.out hwz.others hKg (by decide))))
        rw [HACC.out] at HPX
        go_wp2_with fail
        go_roundw
        case rel => exact ⟨k + 1, by omega, by go_num, HPX, HRX, HAL2⟩
        case measure => simp only [intOf]; omega
      · have t0 : decide ((k : Int) < (q : Int)) = false := decide_eq_false (by omega)
        have hkq : k = q := by omega
        subst hkq
        have KW := Lib.hid (wstr_any (w1.heap.size + 1) (w1.heap.size + 1) _ footT wr HP.out.b (by have := HAL.out; simp [footT]; simp at this; omega) (Nat.le_of_lt HP.out.b.lt.1))
        have HF : Hid ((headT p k z false top ++ (List.range k).flatMap fun i => putRow false z (turnedT z (rowT p z d (ordT k top i)))) ++ footT = putT p k z d false top) := Lib.hid rfl
        have HRES : Hid (∀ w', Below w.heap.size w w' → SE w (putT p k z d false top) 0 (.returned (.tuple #[.string ⟨(putT p k z d false top).toArray⟩, .int .i64 0])) w') := Lib.hid fun w' hb => ⟨rfl, hb⟩
        rw [HF.out] at KW
        unfold footT at KW
        go_wp2_with fail
        refine KW.out.mono ?_
        clear KW
        rintro e w5 ⟨rfl, hw5⟩
        have HP := Lib.hid (HP.out.wrote hw5)
        clear hw5
        have KT := Lib.hid (btext_any (w1.heap.size + 1) (w1.heap.size + 1) _ w5 HP.out.b (Nat.le_of_lt HP.out.b.lt.1))
        go_wp2_with fail
        refine KT.out.mono ?_
        clear KT
        rintro e w6 ⟨rfl, hw6⟩
        have HP := Lib.hid (HP.out.wrote hw6)
        clear hw6
        go_wp2_with fail
        go_ret2
        exact ⟨rfl, HP.out.below⟩
  | true =>
    have hmf := makes_func
    go_enter Try.func12, Try.ntmps12
    go_wp2_with fail
    generalize w.alloc (.cells #[.int .i64 (p : Int), .int .i64 (q : Int), .int .i64 zz, .slice A n c] 24) = W0 at *
    refine (K.out _).mono ?_
    clear K
    rintro e w1 ⟨rfl, hb1⟩
    have hx1 := hbx.below hb1 hz1
    have hB1 := hb.trans (hb1.mono hb.size)
    have hlt1 : w.heap.size < w1.heap.size := Nat.lt_of_lt_of_le hz1 hb1.size
    clear c0 c1 c2 c3 hb1 hbx hb hz1
    have c0 := hx1.c 0 _ rfl
    have c1 := hx1.c 1 _ rfl
    have c2 := hx1.c 2 _ rfl
    have c3 := hx1.c 3 _ rfl
    have s1 := SlotN.new w1 [.int .i64 (z : Int)] #[.int .i64 (z : Int)] 3 rfl
    have e1 : Below w1.heap.size w1 (w1.alloc (.cells #[.int .i64 (z : Int)] 3)) := (Below.refl _ _).alloc (Nat.le_refl _) _
    have hB2 := Bld.new (w1.alloc (.cells #[.int .i64 (z : Int)] 3)) (w1.heap.size + 1) (w1.heap.size + 1) (by simp) (Nat.le_refl _)
    have e2 : Below (w1.heap.size + 1) (w1.alloc (.cells #[.int .i64 (z : Int)] 3)) ((w1.alloc (.cells #[.int .i64 (z : Int)] 3)).alloc (.cells #[.pointer none, .slice none 0 0] 52)) := (Below.refl _ _).alloc (by simp) _
    have hP : PutAt w ((w1.alloc (.cells #[.int .i64 (z : Int)] 3)).alloc (.cells #[.pointer none, .slice none 0 0] 52)) w1.heap.size (w1.heap.size + 1) p q z A n c [] :=
      ⟨by rw [HZ8.out]; exact (hx1.below e1 hlt1).below e2 (by omega), s1.below e2 (by omega), hB2, (hB1.trans (e1.mono (by omega))).trans (e2.mono (by omega)), hlt1, by omega⟩
    have HP := Lib.hid hP
    clear s1 e1 hB2 e2 hP hx1 hB1
    go_wp2_with fail
    generalize (w1.alloc (.cells #[.int .i64 (z : Int)] 3)).alloc (.cells #[.pointer none, .slice none 0 0] 52) = V1 at *
    clear c0 c1 c2 c3
    refine (KH.out _).mono ?_
    clear KH
    rintro e V2 ⟨rfl, hb2⟩
    have HP := Lib.hid (HP.out.grown hb2)
    have KW := Lib.hid (wstr_any (w1.heap.size + 1) (w1.heap.size + 1) [] (headT p q z true top) V2 HP.out.b (by simp [headT_len]) (Nat.le_of_lt HP.out.b.lt.1))
    clear hb2
    go_wp2_with fail
    refine KW.out.mono ?_
    clear KW
    rintro e V3 ⟨rfl, hw3⟩
    have HP := Lib.hid (HP.out.wrote hw3)
    clear hw3
    have HX := Lib.hid HP.out.x
    rw [HZ8.out] at HX
    have c0 := HX.out.c 0 _ rfl
    have c1 := HX.out.c 1 _ rfl
    have c3 := HX.out.c 3 _ rfl
    have cs := HP.out.s.c 0 _ rfl
    clear HX
    go_wp2_with fail
    refine (KO.out _).mono ?_
    clear KO
    rintro e V4 ⟨Ao, co, rfl, hro, hb4⟩
    have hKg : w1.heap.size + 1 < V3.heap.size := HP.out.b.lt.1
    have HP := Lib.hid (HP.out.grown hb4)
    obtain ⟨g, rfl, hg1, hg2, hg3, _⟩ := own_cells hro (by omega)
    have HRO := Lib.hid hro
    clear hro hb4 c0 c1 c3 cs
    go_wp2_with fail
    go_loopw [36] (fun i wr => ∃ k : Nat, k ≤ q ∧ i = .int .i64 (k : Int) ∧ Hid (PutAt w wr w1.heap.size (w1.heap.size + 1) p q z A n c (headT p q z true top ++ (List.range k).flatMap fun i => putRow true z (turnedT z (rowT p z d (ordT q top i))))) ∧ Hid (wr.ownsRow V3.heap.size 3 1 (.slice (some ⟨g, 0, none⟩) q co) q (cellsI (ordL q top))) ∧ Hid ((headT p q z true top ++ (List.range k).flatMap fun i => putRow true z (turnedT z (rowT p z d (ordT q top i)))).length ≤ 18 + k * 1100)) (fun i _ => q - (intOf i).toNat)
    case atStart => exact ⟨0, by omega, rfl, Lib.hid (by simpa using HP.out), HRO, Lib.hid (by simp [headT_len])⟩
    case round =>
      clear HP HRO
      obtain ⟨k, hk, rfl, HP, HRO, HAL⟩ := hrel
      have HX := Lib.hid HP.out.x
      rw [HZ8.out] at HX
      have c3 := HX.out.c 3 _ rfl
      have cs := HP.out.s.c 0 _ rfl
      clear HX
      by_cases hlt : k < q
      · have t0 : decide ((k : Int) < (q : Int)) = true := decide_eq_true (by omega)
        have k0 : (0 : Int) ≤ (k : Int) := by omega
        have k1 : (k : Int) < (q : Int) := by omega
        obtain ⟨y, hy⟩ : ∃ y, y = ordT q top k := ⟨_, rfl⟩
        have hyq : y < q := by rw [hy]; exact ordT_lt top hlt
        have a0 : (⟨g, 0, none⟩ : Addr).add k = ⟨g, k, none⟩ := addr_lit _ _
        have cy : wr.cell? ⟨g, k, none⟩ = some (.int .i64 (y : Int)) := by
          have := HRO.out.cells (g := g) rfl k (.int .i64 (y : Int)) (by rw [cellsI_get]; unfold ordL; rw [List.getElem?_map, List.getElem?_range hlt, hy]; rfl)
          rwa [a0] at this
        have hnq : n = pz * q := by rw [← hdn, hd, HPZ.out, Nat.mul_right_comm]
        have hi1 : pz * y + pz ≤ n := by rw [hnq, ← Nat.mul_succ]; exact Nat.mul_le_mul_left _ hyq
        have hn9 : n ≤ 262144 := by rw [hnq]; exact Nat.le_trans (Nat.mul_le_mul hpz2 hq2) (by decide)
        have HY := Lib.hid hy; clear hy
        have HNQ := Lib.hid hnq; clear hnq
        obtain ⟨i0, hi0⟩ : ∃ i0, i0 = pz * y := ⟨_, rfl⟩
        have ey1 : (pz : Int) * (y : Int) = (i0 : Int) := by rw [hi0]; simp
        have ey2 : (pz : Int) * ((y : Int) + 1) = (i0 : Int) + (pz : Int) := by rw [Int.mul_add, ey1]; simp
        rw [← hi0] at hi1
        have HI0 := Lib.hid hi0; clear hi0
        have hpz0 : 0 < pz := by rw [HPZ.out]; exact Nat.mul_pos (by omega) (by omega)
        obtain ⟨ad, rfl, had, _⟩ := (hI.below HP.out.below (Nat.le_refl _)).text i0 pz (c - i0) hpz0 hi1
        obtain ⟨X, hX⟩ : ∃ X, X = (d.drop i0).take pz := ⟨_, rfl⟩
        have hXl : X.length = p * z := by rw [hX, List.length_take, List.length_drop, hdn, ← HPZ.out]; omega
        have HCV : Hid (∀ W', Below w.heap.size w W' → (convert 22 9 (.slice (some (ad.add i0)) pz (c - i0))).run Try.prog W' = .ok (.string ⟨X.toArray⟩) W') := Lib.hid fun W' hW' => by
          obtain ⟨ad', e, _, h⟩ := (hI.below hW' (Nat.le_refl _)).text i0 pz (c - i0) hpz0 hi1
          injection e with e; subst e
          rw [hX]; exact h
        have HXX : Hid (X = rowT p z d (ordT q top k)) := Lib.hid (by rw [hX, HI0.out, HPZ.out, HY.out]; rfl)
        have KT := Lib.hid (fun W => turned_any z p X W hz (by rw [hXl, ← HPZ.out]; omega) hXl hp1)
        have hTl : (turnedT z X).length = p * z := by rw [turnedT_len]; exact hXl
        have HRL : Hid ((putRow true z (turnedT z X)).length ≤ 1100) := Lib.hid (putRow_len true hz hTl hp2)
        have HSL := fun W => slice_bytes ad n c i0 pz (i0 : Int) ((i0 : Int) + (pz : Int)) rfl (by simp) hpz0 (by omega) W
        have hal : (headT p q z true top ++ (List.range k).flatMap fun i => putRow true z (turnedT z (rowT p z d (ordT q top i)))).length ≤ 300000 := by have := HAL.out; omega
        have HACC : Hid ((headT p q z true top ++ (List.range k).flatMap fun i => putRow true z (turnedT z (rowT p z d (ordT q top i)))) ++ putRow true z (turnedT z X) = headT p q z true top ++ (List.range (k + 1)).flatMap fun i => putRow true z (turnedT z (rowT p z d (ordT q top i)))) := Lib.hid (by
          rw [List.range_succ, List.flatMap_append, HXX.out]; simp)
        have HAL2 : Hid (((headT p q z true top ++ (List.range k).flatMap fun i => putRow true z (turnedT z (rowT p z d (ordT q top i)))) ++ putRow true z (turnedT z X)).length ≤ 18 + (k + 1) * 1100) := Lib.hid (by rw [List.length_append]; have := HRL.out; have := HAL.out; omega)
        rw [HACC.out] at HAL2
        clear HAL
        generalize (headT p q z true top ++ (List.range k).flatMap fun i => putRow true z (turnedT z (rowT p z d (ordT q top i)))) = acc at *
        skip
        have HTL := Lib.hid hTl
        have hci : ¬ c = i0 := by omega
        have e9 : ((i0 : Int) + (pz : Int)).toNat - i0 = pz := by omega
        have b0 : (0 : Int) ≤ (i0 : Int) := by omega
        have b1 : (i0 : Int) ≤ (i0 : Int) + (pz : Int) := by omega
        have b2 : (i0 : Int) + (pz : Int) ≤ (c : Int) := by omega
        have w1' : IntKind.i64.wrap (i0 : Int) = (i0 : Int) := by rw [IntKind.wrap_i64]; omega
        have w2' : IntKind.i64.wrap ((y : Int) + 1) = (y : Int) + 1 := by rw [IntKind.wrap_i64]; omega
        have w3' : IntKind.i64.wrap ((i0 : Int) + (pz : Int)) = (i0 : Int) + (pz : Int) := by rw [IntKind.wrap_i64]; omega
        clear HSL
        have cv0 := HCV.out _ HP.out.below
        have HPX := HP
        have HRX := HRO
        have HM1 : Hid (manyT z (turnedT z X) = p) := Lib.hid (by unfold manyT; rw [hTl]; exact Nat.mul_div_cancel _ (by omega))
        have HTM : Hid ((turnedT z X).length = manyT z (turnedT z X) * z) := Lib.hid (by rw [HM1.out, hTl])
        have HPL : Hid (p * z ≤ 1024) := Lib.hid (by rw [← HPZ.out]; exact hpz2)
        clear hXl hX hTl had
        go_wp2_with fail
        go_region_held3 (fun w' => w'.cell? ⟨w.heap.size, 3, none⟩ = some (.slice (some ad) n c) ∧ w'.cell? ⟨w1.heap.size, 0, none⟩ = some (.int .i64 (z : Int)) ∧ (convert 22 9 (.slice (some (ad.add i0)) pz (c - i0))).run Try.prog w' = .ok (.string ⟨X.toArray⟩) w')
          (refine ⟨?_, ?_, ?_⟩ <;> (first | with_reducible assumption | exact HPX.out.x.c 3 _ rfl | exact HPX.out.s.c 0 _ rfl | exact HCV.out _ HPX.out.below.drew | exact HCV.out _ HPX.out.below))
          (first
            | (go_at_call 33; refine (KT.out _).mono ?_; clear KT; rintro e wx ⟨rfl, hbx⟩; have HPX := Lib.hid (HPX.out.grown ((Below.refl _ wr).drew.trans (hbx.mono (by simp)))); have HRX := Lib.hid (own_below HRX.out ((Below.refl _ wr).drew.trans (hbx.mono (by simp))) (Nat.le_refl _)))
            | (go_at_call 28; refine (put2_any w1.heap.size z (turnedT z X) _ (HPX.out.s.c 0 _ rfl) hz (by rw [HTL.out]; exact Nat.le_trans HPL.out (by decide)) HTM.out).mono ?_; rintro e wy ⟨rfl, hby⟩; have HPX := Lib.hid (HPX.out.grown hby); have HRX := Lib.hid (own_below HRX.out hby (Nat.le_refl _)))
            | (go_at_call 30; refine (wstr_any (w1.heap.size + 1) (w1.heap.size + 1) acc (putRow true z (turnedT z X)) _ HPX.out.b (by have := HRL.out; omega) (by have := HPX.out.b.lt.1; omega)).mono ?_; rintro e wz ⟨rfl, hwz⟩; have HPX := Lib.hid (HPX.out.wrote hwz); have HRX := Lib.hid (own_others HRX.out hwz.others hKg (by decide))))
        rw [HACC.out] at HPX
        go_wp2_with fail
        go_roundw
        case rel => exact ⟨k + 1, by omega, by go_num, HPX, HRX, HAL2⟩
        case measure => simp only [intOf]; omega
      · have t0 : decide ((k : Int) < (q : Int)) = false := decide_eq_false (by omega)
        have hkq : k = q := by omega
        subst hkq
        have KW := Lib.hid (wstr_any (w1.heap.size + 1) (w1.heap.size + 1) _ footT wr HP.out.b (by have := HAL.out; simp [footT]; simp at this; omega) (Nat.le_of_lt HP.out.b.lt.1))
        have HF : Hid ((headT p k z true top ++ (List.range k).flatMap fun i => putRow true z (turnedT z (rowT p z d (ordT k top i)))) ++ footT = putT p k z d true top) := Lib.hid rfl
        have HRES : Hid (∀ w', Below w.heap.size w w' → SE w (putT p k z d true top) 0 (.returned (.tuple #[.string ⟨(putT p k z d true top).toArray⟩, .int .i64 0])) w') := Lib.hid fun w' hb => ⟨rfl, hb⟩
        rw [HF.out] at KW
        unfold footT at KW
        go_wp2_with fail
        refine KW.out.mono ?_
        clear KW
        rintro e w5 ⟨rfl, hw5⟩
        have HP := Lib.hid (HP.out.wrote hw5)
        clear hw5
        have KT := Lib.hid (btext_any (w1.heap.size + 1) (w1.heap.size + 1) _ w5 HP.out.b (Nat.le_of_lt HP.out.b.lt.1))
        go_wp2_with fail
        refine KT.out.mono ?_
        clear KT
        rintro e w6 ⟨rfl, hw6⟩
        have HP := Lib.hid (HP.out.wrote hw6)
        clear hw6
        go_wp2_with fail
        go_ret2
        exact ⟨rfl, HP.out.below⟩
theorem put_any (p q b : Int) (A : Option Addr) (n c : Nat) (d : List UInt8) (packed top : Bool) (w : World) (hI : Byts w w.heap.size A n d) (hnc : n ≤ c) (hc : c ≤ 9223372036854775807) :
    Calls Try.prog 12 #[imV p q b A n c, .bool packed, .bool top] w (SE w (putR p q b d packed top).1 (putR p q b d packed top).2) := by
  unfold putR
  rw [hI.length]
  cases h : isT p q b n with
  | false => exact put_no p q b A n c packed top w hI.len h
  | true =>
    unfold isT formT at h
    simp only [Bool.and_eq_true, decide_eq_true_eq] at h
    obtain ⟨⟨g1, g2, g3, g4, g5⟩, g6⟩ := h
    obtain ⟨p, rfl⟩ : ∃ k : Nat, p = k := ⟨p.toNat, by omega⟩
    obtain ⟨q, rfl⟩ : ∃ k : Nat, q = k := ⟨q.toNat, by omega⟩
    obtain ⟨z, hz, rfl⟩ : ∃ k : Nat, (k = 3 ∨ k = 4) ∧ b = ((8 * k : Nat) : Int) := by
      rcases g5 with rfl | rfl
      · exact ⟨3, .inl rfl, rfl⟩
      · exact ⟨4, .inr rfl, rfl⟩
    have e8 : (((8 * z : Nat) : Int)) / 8 = (z : Int) := by omega
    rw [e8] at g6 ⊢
    have g7 : n = p * q * z := by have : ((p * q * z : Nat) : Int) = (n : Int) := by rw [g6]; simp
                                  omega
    exact put_yes p q z A n c d packed top w hI hnc hc ⟨by show 1 ≤ p; omega, by show p ≤ 256; omega, by show 1 ≤ q; omega, by show q ≤ 256; omega, hz, by show d.length = p * q * z; rw [hI.length, g7]⟩
end Go.Proofs.Ytfkkppagbhllgaa

/-
  THE STEPS OF tga.Get: its head.
-/
set_option linter.unusedVariables false
set_option linter.unusedSimpArgs false
set_option maxRecDepth 100000
namespace Go.Proofs.Ytfkkppagbhllgaa
open Go.RowKit

theorem idx_str (l : List UInt8) (i : Nat) (k : Int) (h : i < l.length) (hk : k = (i : Int)) (W : World) : Sem.run Try.prog (Instr.index 9 (.string ⟨l.toArray⟩) (.int .i64 k)) W = .ok (.int .u8 ((l.getD i 0).toNat : Int)) W := by
  subst hk
  have hs : i < (⟨l.toArray⟩ : ByteArray).size := by simpa [ByteArray.size] using h
  simp [go_sem, hs]
  rw [dif_pos h, List.getElem?_eq_getElem h]
  rfl
/-- Get's variables -/
structure GetAt (w W : World) (xs : List Value) (e : Int) (rest : List UInt8) : Prop where
  m : SlotN W w.heap.size xs
  e : SlotN W (w.heap.size + 1) [.int .i64 e]
  r : SlotN W (w.heap.size + 1 + 1) [strV rest]
  below : Below w.heap.size w W
  size : w.heap.size + 3 ≤ W.heap.size
def zimV : Value := .agg #[.int .i64 0, .int .i64 0, .int .i64 0, .slice none 0 0]
def zim : List Value := [.int .i64 0, .int .i64 0, .int .i64 0, .slice none 0 0]
theorem GetAt.new (w : World) (s : List UInt8) (t1 t2 t3 : TypeId) : GetAt w (((w.alloc (.cells #[.int .i64 0, .int .i64 0, .int .i64 0, .slice none 0 0] t1)).alloc (.cells #[.int .i64 0] t2)).alloc (.cells #[.string ⟨s.toArray⟩] t3)) zim 0 s := by
  have s1 := SlotN.new w zim #[.int .i64 0, .int .i64 0, .int .i64 0, .slice none 0 0] t1 rfl
  have s2 := SlotN.new (w.alloc (.cells #[.int .i64 0, .int .i64 0, .int .i64 0, .slice none 0 0] t1)) [.int .i64 0] #[.int .i64 0] t2 rfl
  have s3 := SlotN.new ((w.alloc (.cells #[.int .i64 0, .int .i64 0, .int .i64 0, .slice none 0 0] t1)).alloc (.cells #[.int .i64 0] t2)) [strV s] #[.string ⟨s.toArray⟩] t3 rfl
  have b1 : Below (w.heap.size + 1) (w.alloc (.cells #[.int .i64 0, .int .i64 0, .int .i64 0, .slice none 0 0] t1)) ((w.alloc (.cells #[.int .i64 0, .int .i64 0, .int .i64 0, .slice none 0 0] t1)).alloc (.cells #[.int .i64 0] t2)) := (Below.refl _ _).alloc (by simp) _
  have b2 : Below (w.heap.size + 1 + 1) ((w.alloc (.cells #[.int .i64 0, .int .i64 0, .int .i64 0, .slice none 0 0] t1)).alloc (.cells #[.int .i64 0] t2)) (((w.alloc (.cells #[.int .i64 0, .int .i64 0, .int .i64 0, .slice none 0 0] t1)).alloc (.cells #[.int .i64 0] t2)).alloc (.cells #[.string ⟨s.toArray⟩] t3)) := (Below.refl _ _).alloc (by simp) _
  simp only [World.size_alloc] at s2 s3
  exact ⟨(s1.below b1 (by omega)).below b2 (by omega), s2.below b2 (by omega), s3, (((Below.refl _ _).alloc (Nat.le_refl _) _).alloc (by simp) _).alloc (by simp; omega) _, by simp⟩
theorem GetAt.grown {w W W' : World} {xs : List Value} {e : Int} {rest : List UInt8} (h : GetAt w W xs e rest) (hb : Below W.heap.size W W') : GetAt w W' xs e rest := by
  have := h.size
  exact ⟨h.m.below hb (by omega), h.e.below hb (by omega), h.r.below hb (by omega), h.below.trans (hb.mono h.below.size), Nat.le_trans this hb.size⟩
theorem GetAt.took {w W : World} {xs : List Value} {e : Int} {rest : List UInt8} (h : GetAt w W xs e rest) (r' : List UInt8) : GetAt w (W.setCell ⟨w.heap.size + 1 + 1, 0, none⟩ (strV r')) xs e r' :=
  ⟨h.m.other _ (by omega) _, h.e.other _ (by omega) _, h.r.one _, h.below.setCell (p := ⟨w.heap.size + 1 + 1, 0, none⟩) (by simp; omega) _, by simpa using h.size⟩
theorem GetAt.setM {w W : World} {xs : List Value} {e : Int} {rest : List UInt8} (h : GetAt w W xs e rest) (k : Nat) (hk : k < xs.length) (v : Value) : GetAt w (W.setCell ⟨w.heap.size, k, none⟩ v) (xs.set k v) e rest :=
  ⟨h.m.setAt k hk v, h.e.otherJ _ _ (by omega) _, h.r.otherJ _ _ (by omega) _, h.below.setCell (p := ⟨w.heap.size, k, none⟩) (Nat.le_refl _) _, by simpa using h.size⟩
theorem GetAt.setE {w W : World} {xs : List Value} {e : Int} {rest : List UInt8} (h : GetAt w W xs e rest) (e' : Int) : GetAt w (W.setCell ⟨w.heap.size + 1, 0, none⟩ (.int .i64 e')) xs e' rest :=
  ⟨h.m.other _ (by omega) _, h.e.one _, h.r.other _ (by omega) _, h.below.setCell (p := ⟨w.heap.size + 1, 0, none⟩) (by simp) _, by simpa using h.size⟩
theorem GetAt.drew {w W : World} {xs : List Value} {e : Int} {rest : List UInt8} (h : GetAt w W xs e rest) : GetAt w W.drew xs e rest :=
  ⟨⟨h.m.c, h.m.f⟩, ⟨h.e.c, h.e.f⟩, ⟨h.r.c, h.r.f⟩, h.below.drew, h.size⟩
/-- a piece of code that throws nothing -/
theorem wp_calm {P : Program} {c : Code} {K : Act → World → Prop} {Q : Exit → Act → World → Prop} {a : Act} {w : World} (h : c.wp P (Exit.then K fun _ _ _ => False) a w) : c.wp P (Exit.then K Q) a w :=
  wp_mono h fun e a w q => by cases e <;> first | exact q | exact q.elim
theorem or_shl (a b : Nat) (ha : a ≤ 255) (hb : b ≤ 255) : Go.bits BinOp.or IntKind.i64 (a : Int) ((b : Int) * 256) = (a : Int) + 256 * (b : Int) := by
  have e : (b : Int) * 256 = ((b * 256 : Nat) : Int) := by simp
  rw [e]
  unfold Go.bits
  have e1 : ((a : Int) % (2 ^ IntKind.i64.bits : Int)).toNat = a := by show ((a : Int) % 18446744073709551616).toNat = a; omega
  have e2 : (((b * 256 : Nat) : Int) % (2 ^ IntKind.i64.bits : Int)).toNat = b * 256 := by show (((b * 256 : Nat) : Int) % 18446744073709551616).toNat = b * 256; omega
  have e3 : a ||| b * 256 = a + 256 * b := by
    have := Nat.two_pow_add_eq_or_of_lt (i := 8) (b := a) (by omega) b
    rw [show b * 256 = 2 ^ 8 * b by omega, Nat.or_comm, ← this]; omega
  have f1 : (BitVec.ofInt IntKind.i64.bits (a : Int)).toNat = a := by rw [BitVec.toNat_ofInt]; exact e1
  have f2 : (BitVec.ofInt IntKind.i64.bits ((b * 256 : Nat) : Int)).toNat = b * 256 := by rw [BitVec.toNat_ofInt]; exact e2
  show IntKind.i64.wrap ((BitVec.ofInt IntKind.i64.bits (a : Int) ||| BitVec.ofInt IntKind.i64.bits ((b * 256 : Nat) : Int)).toNat : Int) = _
  rw [BitVec.toNat_or, f1, f2, e3, IntKind.wrap_i64]
  omega
theorem clearG (g : Nat) (xs : List Value) (w : World) (h : SlotN w g xs) (hl : xs.length = 4) : Calls Try.prog 46 #[.pointer (some ⟨g, 0, none⟩)] w fun e w' =>
    e = .returned (.tuple #[]) ∧ w' = (((w.setCell ⟨g, 0, none⟩ (.int .i64 0)).setCell ⟨g, 1, none⟩ (.int .i64 0)).setCell ⟨g, 2, none⟩ (.int .i64 0)).setCell ⟨g, 3, none⟩ (.slice none 0 0) := by
  match xs, hl with
  | [a, b, c, d], _ =>
  have d0 := h.c 0 _ rfl
  have d1 := h.c 1 _ rfl
  have d2 := h.c 2 _ rfl
  have d3 := h.c 3 _ rfl
  have f0 := h.f 0
  have f1 := h.f 1
  have f2 := h.f 2
  have f3 := h.f 3
  go_enter Try.func46, Try.ntmps46
  go_wp2_with fail
  go_end0
  exact ⟨rfl, rfl⟩
theorem caught_g (g g2 : Nat) (z : Int) (older : List PanicEntry) (w w1 : World) (x : Value) (hx : w.cell? ⟨g, 0, none⟩ = some x) (hf : w.frozen? ⟨g, 0, none⟩ = false)
    (hC : Calls Try.prog 46 #[.pointer (some ⟨g2, 0, none⟩)] (w.setCell ⟨g, 0, none⟩ (.int .i64 z)) fun e w' => e = .returned (.tuple #[]) ∧ w' = w1) :
    CallsD Try.prog 42 #[.pointer (some ⟨g, 0, none⟩), .func (.func 46) #[] #[.pointer (some ⟨g2, 0, none⟩)]] (.panicking ({ v := .iface 29 (.int .i64 z), recovered := false } :: older)) w fun e u' w' => e = .returned (.tuple #[]) ∧ u' = .panicking ({ v := .iface 29 (.int .i64 z), recovered := true } :: older) ∧ w' = w1 := by
  refine callsD_of_wpS Try.func42 rfl fun c₀ cs hu => ?_
  simp only [Try.ntmps42, List.size_toArray, List.length_cons, List.length_nil, Nat.reduceAdd, Nat.reduceSub, Array.replicate_succ, Array.replicate_zero, List.push_toArray, List.append_toArray, List.nil_append, List.cons_append]
  apply wpS_seq
  apply wpS_region
  have ha := assert_nil
  have hb := assert_err
  simp [wpOpsS, go_sem, recoverD, hu, ha, hb, Try.ntmps42, Exit.thenS]
  clear ha hb
  have HU := Lib.hid hu; clear hu
  refine wpS_of_wp ?_
  go_wp2_with fail
  refine hC.mono ?_
  clear hC
  rintro e w2 ⟨rfl, rfl⟩
  go_wp2_with fail
  have hu := HU.out
  cases c₀
  simp_all [bodyPostS, results, Try.results42]
/-- what Get hands back -/
def GetRes (s : List UInt8) (w : World) (e : Ending) (w' : World) : Prop :=
  Below w.heap.size w w' ∧ ((getT s = none ∧ e = .returned (.tuple #[zimV, .int .i64 6])) ∨
    ∃ m A n c, getT s = some m ∧ e = .returned (.tuple #[imV m.w m.h ((8 * m.z : Nat) : Int) A n c, .int .i64 0]) ∧ Byts w' w'.heap.size A n m.d ∧ n ≤ c ∧ c ≤ 9223372036854775807)
set_option maxHeartbeats 400000 in
theorem get_short (s : List UInt8) (w : World) (hl : s.length ≤ 1000000) (h18 : s.length < 18) : Calls Try.prog 25 #[.string ⟨s.toArray⟩] w (GetRes s w) := by
  have FIN2 : Hid (∀ w', getT s = none → Below w.heap.size w w' → GetRes s w (.returned (.tuple #[zimV, .int .i64 6])) w') := Lib.hid fun w' h1 h2 => ⟨h2, .inl ⟨h1, rfl⟩⟩
  have HN : Hid (getT s = none) := Lib.hid (by unfold getT; rw [if_pos h18])
  generalize hQ : GetRes s w = Qp at FIN2 ⊢
  clear hQ
  have hmf := makes_func
  have hG := GetAt.new w s 24 29 71
  have KT := Lib.hid (take_bad (w.heap.size + 1 + 1) s 18 _ hG.r (by omega) hl)
  have HGT := Lib.hid hG
  clear hG
  unfold Thrown at KT
  go_enter_defers Try.func25, Try.ntmps25
  go_wp2_with fail
  refine KT.out.mono ?_
  clear KT
  generalize (((w.alloc (.cells #[.int .i64 0, .int .i64 0, .int .i64 0, .slice none 0 0] 24)).alloc (.cells #[.int .i64 0] 29)).alloc (.cells #[.string ⟨s.toArray⟩] 71)) = W2 at *
  rintro e w2 ⟨rfl, rfl⟩
  go_wp2_with fail
  have HE1 := Lib.hid (HGT.out.setE 6)
  have HE2 := Lib.hid ((((HE1.out.setM 0 (by simp [zim]) (.int .i64 0)).setM 1 (by simp [zim]) (.int .i64 0)).setM 2 (by simp [zim]) (.int .i64 0)).setM 3 (by simp [zim]) (.slice none 0 0))
  refine leaves_cons (f := 42) (args := #[.pointer (some ⟨w.heap.size + 1, 0, none⟩), .func (.func 46) #[] #[.pointer (some ⟨w.heap.size, 0, none⟩)]]) (by simp) (by simp [go_sem]) ?_
  refine (caught_g (w.heap.size + 1) w.heap.size 6 [] _ _ (.int .i64 0) (HGT.out.e.c 0 _ rfl) (HGT.out.e.f 0) (clearG w.heap.size _ _ HE1.out.m rfl)).mono ?_
  rintro e u' w'' ⟨rfl, rfl, rfl⟩
  have HF := HE2.out
  clear HE1 HE2 HGT
  generalize World.setCell _ ⟨w.heap.size, 3, none⟩ (.slice none 0 0) = V at *
  have e0 := HF.m.c 0 _ rfl
  have e1 := HF.m.c 1 _ rfl
  have e2 := HF.m.c 2 _ rfl
  have e3 := HF.m.c 3 _ rfl
  have e4 := HF.e.c 0 _ rfl
  refine ⟨.tuple #[zimV, .int .i64 6], ?_, FIN2.out _ HN.out HF.below⟩
  simp [results, Try.results25, go_sem, e0, e1, e2, e3, e4, zimV]
end Go.Proofs.Ytfkkppagbhllgaa

/-
  THE WALKS OF slices.IndexFunc, ContainsFunc AND Clone, of ints (ContI, for a seat without the reference of numbers).
-/
set_option linter.unusedVariables false
set_option linter.unusedSimpArgs false
namespace Go.Proofs.Ytfkkppagbhllgaa
open Go.RowKit

theorem size_int' : (Try.prog.info? 3).map (fun i => (i.zero, i.size, i.bytes)) = some (some (.int .i64 0), 1, 8) := by kernel_rfl
theorem any_true' {α : Type} {f : α → Bool} {x : α} {xs : List α} (hx : x ∈ xs) (h : f x = true) : xs.any f = true := List.any_eq_true.2 ⟨x, hx, h⟩
/-- what an index says: not below 0 just where there is one -/
def IdxRes' (b : Bool) (e : Ending) : Prop := ∃ r : Int, e = .returned (.int .i64 r) ∧ -1 ≤ r ∧ r ≤ 9223372036854775807 ∧ decide (0 ≤ r) = b
theorem IdxRes'.no {b : Bool} (h : b = false) : IdxRes' b (.returned (.int .i64 (-1))) := ⟨-1, rfl, by omega, by omega, by rw [h]; rfl⟩
theorem IdxRes'.yes {b : Bool} {k : Nat} (h : b = true) (hk : k ≤ 9223372036854775807) : IdxRes' b (.returned (.int .i64 k)) := ⟨k, rfl, by omega, by omega, by rw [h]; simp⟩

theorem idxL_any (B F : Nat) (f : Int → Bool) (hf : ∀ (x : Int) (W : World), Calls Try.prog F #[.int .i64 x] W fun e w' => e = .returned (.bool (f x)) ∧ W = w')
    (hF : ∀ (args : Array Value) (W : World), Sem.run Try.prog (callFunc F args) W = .ok (.enter F args) W) (A : Option Addr) (n c : Nat) (xs : List Int) (w : World) (h : Ints w B A n xs) :
    Calls Try.prog 70 #[.slice A n c, .func (.func F) #[] #[]] w fun e w' => IdxRes' (xs.any f) e ∧ w = w' := by
  have hn := h.len
  have HF := Lib.hid hf; clear hf
  go_enter Try.func70, Try.ntmps70
  go_wp2
  go_loop [8] (fun i => ∃ k : Nat, k ≤ n ∧ i = .int .i64 k ∧ Hid ((xs.take k).any f = false)) (fun i => n - (intOf i).toNat)
  case atStart => exact ⟨0, Nat.zero_le _, rfl, rfl⟩
  case round =>
    obtain ⟨k, hk, rfl, hany⟩ := hrel
    by_cases hlt : k < n
    · obtain ⟨ad, x, rfl, hb, hx, hm, hc, hlo, hhi⟩ := h.get hlt
      have HX := Lib.hid hx; clear hx
      go_wp2_with fail
      refine (HF.out x _).mono ?_
      rintro e w' ⟨rfl, rfl⟩
      cases hfx : f x with
      | true =>
        have HFX := Lib.hid hfx; clear hfx
        go_wp2_with fail
        go_ret
        exact ⟨.yes (any_true' hm HFX.out) (by omega), rfl⟩
      | false =>
        have HFX := Lib.hid hfx; clear hfx
        go_wp2_with fail
        go_round
        case rel => exact ⟨k + 1, by omega, by go_num, by
          refine Lib.hid ?_
          rw [take_snoc' _ _ _ HX.out, List.any_append, hany.out]
          simp [HFX.out]⟩
        case measure => simp [intOf]; omega
    · go_wp2_with fail
      go_ret
      refine ⟨.no ?_, rfl⟩
      have := hany.out
      rw [List.take_of_length_le (by rw [h.length]; omega)] at this
      exact this

theorem containsL_any (B F : Nat) (f : Int → Bool) (hf : ∀ (x : Int) (W : World), Calls Try.prog F #[.int .i64 x] W fun e w' => e = .returned (.bool (f x)) ∧ W = w')
    (hF : ∀ (args : Array Value) (W : World), Sem.run Try.prog (callFunc F args) W = .ok (.enter F args) W) (A : Option Addr) (n c : Nat) (xs : List Int) (w : World) (h : Ints w B A n xs) :
    Calls Try.prog 58 #[.slice A n c, .func (.func F) #[] #[]] w fun e w' => e = .returned (.bool (xs.any f)) ∧ w = w' := by
  have HF := Lib.hid hf; clear hf
  go_enter Try.func58, Try.ntmps58
  go_wp2_with fail
  refine (idxL_any B F f HF.out hF A n c xs _ h).mono ?_
  rintro e w' ⟨⟨r, rfl, h1, h2, hr⟩, rfl⟩
  have HR := Lib.hid hr; clear hr
  go_wp2_with fail
  go_ret
  exact ⟨ret_bool HR.out, rfl⟩

theorem clone_pos (A : Option Addr) (n c : Nat) (xs : List Int) (w : World) (h : Ints w w.heap.size A n xs) (hn : n ≤ 1000) (h0 : 0 < n) :
    Calls Try.prog 61 #[.slice A n c] w (LoneRes w 3 1 n (cellsI xs)) := by
  obtain ⟨i0, hi0, hz0, hz1, hz2⟩ := info_parts size_int'
  have hl := h.rd.1
  obtain ⟨ad, rfl, hb, hc⟩ := h.rd.2 (by omega)
  have hone := cellsI_one xs
  have hnil := fun (a : Option Addr) (n c : Nat) (W : World) => Lib.run_eql_slice_nil (P := Try.prog) W 25 3 a n c 0 0 Try.underlying25
  go_enter Try.func61, Try.ntmps61
  have hB : w.heap.size ≤ w.heap.size + 1 := by omega
  have hc' : ∀ j u, (cellsI xs)[j]? = some u → (w.alloc (.cells #[] 3)).cell? (ad.add j) = some u := fun j u hu => by rw [World.cell?_alloc_lt w _ _ (by rw [addr_block]; exact hb)]; exact hc j u hu
  have HC := Lib.hid hc'; clear hc hc'
  go_wp2_with (at_builtin; refine wpList_append_lies _ rfl (.tmp 5) (.tmp 6) _ rfl w.heap.size 3 i0 _ 1 8 Try.underlying25 hi0 hz0 hz1 hz2 rfl (by decide) _ 0 [] rfl (World.ownsRow_made w #[] 0 (Nat.le_refl _) (by unfold maxLen; omega) rfl) ad n c (cellsI xs) rfl hl HC.out hone h0 (by unfold maxLen; omega) (by omega) (by simp) _ rfl ?_; intro g4 cap4 w4 hown4 hgr4 hat4 hlt4)
  go_ret
  simp only [Nat.zero_add, List.nil_append] at hown4
  exact ⟨_, _, by simp, hown4, ((Below.refl _ _).alloc (Nat.le_refl _) _).grown hgr4 (by simp) (fun k hk => by cases hk; exact Nat.le_refl _)⟩
theorem clone_nil (c : Nat) (w : World) :
    Calls Try.prog 61 #[.slice none 0 c] w (LoneRes w 3 1 0 []) := by
  have hnil := fun (a : Option Addr) (n c : Nat) (W : World) => Lib.run_eql_slice_nil (P := Try.prog) W 25 3 a n c 0 0 Try.underlying25
  go_enter Try.func61, Try.ntmps61
  go_wp2_with fail
  go_ret
  exact ⟨none, 0, rfl, World.ownsRow_nil _ _ _ _, Below.refl _ _⟩
theorem clone_empty (ad : Addr) (c : Nat) (w : World) :
    Calls Try.prog 61 #[.slice (some ad) 0 c] w (LoneRes w 3 1 0 []) := by
  have hnil := fun (a : Option Addr) (n c : Nat) (W : World) => Lib.run_eql_slice_nil (P := Try.prog) W 25 3 a n c 0 0 Try.underlying25
  go_enter Try.func61, Try.ntmps61
  go_wp2_with fail
  go_ret
  exact ⟨_, 0, rfl, World.ownsRow_made w #[] 0 (Nat.le_refl _) (by unfold maxLen; omega) rfl, (Below.refl _ _).alloc (Nat.le_refl _) _⟩
theorem clone_any (A : Option Addr) (n c : Nat) (xs : List Int) (w : World) (h : Ints w w.heap.size A n xs) (hn : n ≤ 1000) :
    Calls Try.prog 61 #[.slice A n c] w (LoneRes w 3 1 n (cellsI xs)) := by
  rcases Nat.eq_zero_or_pos n with rfl | h0
  · obtain rfl := List.length_eq_zero_iff.1 h.length
    cases A with
    | none => exact clone_nil c w
    | some ad => exact clone_empty ad c w
  · exact clone_pos A n c xs w h hn h0
end Go.Proofs.Ytfkkppagbhllgaa

/-
  THE LEXICAL ORDER OF A REGION, asked quickly: one look at each pair of operations, by masks. Nothing of the program is named here.
-/
set_option linter.unusedVariables false
set_option linter.unusedSimpArgs false
namespace Go.Proofs.Ytfkkppagbhllgaa
open Go.RowKit

def maskOf (l : List Nat) : Nat := l.foldr (fun t m => Nat.lor (Nat.pow 2 t) m) 0
theorem mask_bit (l : List Nat) (t : Nat) : (maskOf l).testBit t = l.contains t := by
  induction l with
  | nil => simp [maskOf]
  | cons x l ih =>
    have h : maskOf (x :: l) = (2 ^ x) ||| maskOf l := rfl
    rw [h, Nat.testBit_or, ih, Nat.testBit_two_pow, List.contains_cons]
    congr 1
    by_cases hxt : x = t
    · subst hxt; simp
    · have h2 : ¬ t = x := fun e => hxt e.symm
      simp [hxt, h2]
def dstM (o : Oper) : Nat := match o.dst with | some d => Nat.pow 2 d | none => 0
def onL (o : Oper) : List Nat := o.after.toList.filterMap fun e => if Region.binds .any e then some e.on else none
def lookM (ops : Array Oper) (o : Oper) : Nat := maskOf (o.looksAt ops)
def pairOk (ops : Array Oper) (i : Nat) (x y : Oper) : Bool :=
  Nat.testBit (maskOf (onL y)) i || (Nat.beq (Nat.land (dstM x) (Nat.lor (lookM ops y) (dstM y))) 0 && Nat.beq (Nat.land (dstM y) (lookM ops x)) 0)
def pairsOk (ops : Array Oper) : List Oper → Nat → Bool
  | [], _ => true
  | x :: l, i => l.all (fun y => pairOk ops i x y) && pairsOk ops l (i + 1)
def edgesOk : List Oper → Nat → Bool
  | [], _ => true
  | o :: l, k => o.after.toList.all (fun e => Nat.ble (e.on + 1) k) && edgesOk l (k + 1)
def lexFast (l : List Oper) : Bool := Region.noSelect l.toArray && edgesOk l 0 && pairsOk l.toArray l 0

theorem land_apart {d m : Nat} (h : Nat.beq (Nat.land (2 ^ d) m) 0 = true) : m.testBit d = false := by
  have h0 : (2 ^ d) &&& m = 0 := Nat.eq_of_beq_eq_true h
  have h1 := congrArg (fun x => Nat.testBit x d) h0
  simp only [Nat.testBit_and, Nat.testBit_two_pow, Nat.zero_testBit] at h1
  simpa using h1

theorem apart_of_masks {ops : Array Oper} {x y : Oper} (h1 : Nat.beq (Nat.land (dstM x) (Nat.lor (lookM ops y) (dstM y))) 0 = true) (h2 : Nat.beq (Nat.land (dstM y) (lookM ops x)) 0 = true) : x.apart ops y = true := by
  unfold Oper.apart
  rw [Bool.and_eq_true]
  constructor
  · cases hx : x.dst with
    | none => rfl
    | some d =>
      have e : dstM x = 2 ^ d := by simp only [dstM, hx]; rfl
      rw [e] at h1
      have h3 := land_apart h1
      rw [show Nat.lor (lookM ops y) (dstM y) = lookM ops y ||| dstM y from rfl, Nat.testBit_or, Bool.or_eq_false_iff, lookM, mask_bit] at h3
      simp only [Bool.and_eq_true, bne_iff_ne, Bool.not_eq_true']
      refine ⟨h3.1, fun hy => ?_⟩
      have e2 : dstM y = 2 ^ d := by simp only [dstM, hy]; rfl
      rw [e2, Nat.testBit_two_pow_self] at h3
      exact absurd h3.2 (by simp)
  · cases hy : y.dst with
    | none => rfl
    | some d =>
      have e : dstM y = 2 ^ d := by simp only [dstM, hy]; rfl
      rw [e] at h2
      have h3 := land_apart h2
      rw [lookM, mask_bit] at h3
      simpa using h3

theorem pairsOk_get {ops : Array Oper} : ∀ {l : List Oper} {k : Nat}, pairsOk ops l k = true → ∀ {i j : Nat} {x y : Oper}, i < j → l[i]? = some x → l[j]? = some y → pairOk ops (k + i) x y = true
  | [], _, _, _, _, _, _, _, hx, _ => by simp at hx
  | o :: l, k, h, i, j, x, y, hij, hx, hy => by
    simp only [pairsOk, Bool.and_eq_true, List.all_eq_true] at h
    cases j with
    | zero => omega
    | succ j =>
      rw [List.getElem?_cons_succ] at hy
      cases i with
      | zero =>
        rw [List.getElem?_cons_zero] at hx
        cases hx
        exact h.1 y (List.mem_of_getElem? hy)
      | succ i =>
        rw [List.getElem?_cons_succ] at hx
        have := pairsOk_get h.2 (i := i) (j := j) (by omega) hx hy
        rwa [show k + (i + 1) = k + 1 + i by omega]
theorem edgesOk_get : ∀ {l : List Oper} {k : Nat}, edgesOk l k = true → ∀ {i : Nat} {o : Oper}, l[i]? = some o → ∀ e ∈ o.after, e.on < k + i
  | [], _, _, _, _, h, _, _ => by simp at h
  | o :: l, k, h, i, x, hx, e, he => by
    simp only [edgesOk, Bool.and_eq_true, List.all_eq_true] at h
    cases i with
    | zero =>
      rw [List.getElem?_cons_zero] at hx
      cases hx
      have := Nat.le_of_ble_eq_true (h.1 e (by simpa using he))
      omega
    | succ i =>
      rw [List.getElem?_cons_succ] at hx
      have := edgesOk_get h.2 hx e he
      omega

theorem lexFrom_of {l : List Oper} (he : edgesOk l 0 = true) (hp : pairsOk l.toArray l 0 = true) : ∀ (fuel k : Nat) (listed : Array Bool), k + fuel = l.length → listed.size = l.length → (∀ j, j < l.length → listed[j]? = some (decide (j < k))) →
    Region.lexFrom .any l.toArray fuel k listed = true
  | 0, k, listed, hk, hs, hl => by
    simp only [Region.lexFrom, List.isEmpty_iff, Region.ready, List.filter_eq_nil_iff, List.mem_range]
    intro i hi
    have hi' : i < l.length := hi
    have := hl i hi'
    simp only [Array.getD_eq_getD_getElem?, this, Option.getD_some]
    simp; omega
  | fuel + 1, k, listed, hk, hs, hl => by
    have hkl : k < l.length := by omega
    have hx : l[k]? = some (l[k]) := List.getElem?_eq_getElem hkl
    have hxa : l.toArray[k]? = some (l[k]) := by simp [hx]
    simp only [Region.lexFrom, Bool.and_eq_true]
    refine ⟨⟨?_, ?_⟩, ?_⟩
    · rw [List.contains_iff_mem, Region.ready, List.mem_filter, List.mem_range]
      refine ⟨by simpa using hkl, ?_⟩
      rw [hxa]
      simp only [Array.getD_eq_getD_getElem?, hl k hkl, Option.getD_some, Option.map_some, Bool.and_eq_true]
      refine ⟨by simp, ?_⟩
      rw [Array.all_eq_true_iff_forall_mem]
      intro e hem
      have := edgesOk_get he hx e hem
      rw [hl e.on (by omega)]
      simp; right; omega
    · unfold Region.free
      rw [hxa]
      simp only [List.all_eq_true, List.mem_range]
      intro j hj
      have hj' : j < l.length := hj
      have hy : l[j]? = some (l[j]) := List.getElem?_eq_getElem hj'
      have hya : l.toArray[j]? = some (l[j]) := by rw [List.getElem?_toArray]; exact hy
      rw [hya]
      simp only [Array.getD_eq_getD_getElem?, hl j hj', Option.getD_some, Bool.or_eq_true, beq_iff_eq, decide_eq_true_eq]
      rcases Nat.lt_trichotomy j k with h | h | h
      · exact .inl (.inr h)
      · exact .inl (.inl h)
      · right
        have h2 := pairsOk_get hp h hx hy
        rw [Nat.zero_add] at h2
        simp only [pairOk, Bool.or_eq_true, Bool.and_eq_true] at h2
        rcases h2 with h2 | h2
        · left
          rw [mask_bit, List.contains_iff_mem, onL, List.mem_filterMap] at h2
          obtain ⟨e, hem, hif⟩ := h2
          split at hif
          · rename_i hb
            cases hif
            rw [Array.any_eq_true]
            obtain ⟨n, hn, hge⟩ := Array.getElem_of_mem (Array.mem_toList_iff.1 hem)
            exact ⟨n, hn, by rw [hge]; simp [hb]⟩
          · cases hif
        · exact .inr (apart_of_masks h2.1 h2.2)
    · refine lexFrom_of he hp fuel (k + 1) _ (by omega) (by simpa using hs) (fun j hj => ?_)
      rw [Array.getElem?_setIfInBounds]
      by_cases h : k = j
      · subst h; rw [if_pos rfl, if_pos (by omega)]; simp
      · rw [if_neg h, hl j hj]; congr 1; rw [decide_eq_decide]; omega

theorem lexB_of_fast {l : List Oper} (h : lexFast l = true) : Region.lexB .any l.toArray = true := by
  simp only [lexFast, Bool.and_eq_true] at h
  obtain ⟨⟨h1, h2⟩, h3⟩ := h
  simp only [Region.lexB, Bool.and_eq_true]
  refine ⟨h1, ?_⟩
  have := lexFrom_of h2 h3 l.length 0 (Array.replicate l.length false) (by omega) (by simp) (fun j hj => by simp [hj])
  simpa using this
end Go.Proofs.Ytfkkppagbhllgaa

/-
  THE WALK OF seam.Level without pairs (DilWalkC, for a seat that has no package dilate).
-/
set_option linter.unusedVariables false
set_option linter.unusedSimpArgs false
namespace Go.Proofs.Ytfkkppagbhllgaa
open Go.RowKit

theorem lodd_any (x : Int) (w : World) : Calls Try.prog 57 #[.int .i64 x] w fun e w' => e = .returned (.bool (!grey x)) ∧ w = w' := by
  by_cases h1 : x < -1
  · have d1 : decide (x < -1) = true := decide_eq_true h1
    go_enter Try.func57, Try.ntmps57
    go_wp2_with fail
    go_ret
    exact ⟨ret_bool (by simp [grey, show ¬ -1 ≤ x by omega]), rfl⟩
  · have d1 : decide (x < -1) = false := decide_eq_false h1
    cases h2 : decide (255 < x)
    all_goals
      go_enter Try.func57, Try.ntmps57
      go_wp2_with fail
      go_ret
      refine ⟨ret_bool ?_, rfl⟩
    · have := of_decide_eq_false h2
      simp [grey, show -1 ≤ x by omega, show x ≤ 255 by omega]
    · have := of_decide_eq_true h2
      simp [grey, show ¬ x ≤ 255 by omega]

/-- the sums of the first k texels: each its own value, and one -/
def sumV (k i : Nat) (x : Int) : Int := if i < k ∧ x ≠ -1 then x else 0
def sumN (k i : Nat) (x : Int) : Int := if i < k ∧ x ≠ -1 then 1 else 0
structure SumsAt (w : World) (g : Nat) (v : List Int) (k : Nat) : Prop where
  c : ∀ i x, v[i]? = some x → w.cell? ⟨g, i * 2, none⟩ = some (.int .i64 (sumV k i x)) ∧ w.cell? ⟨g, i * 2 + 1, none⟩ = some (.int .i64 (sumN k i x))
  f : ∀ j, w.frozen? ⟨g, j, none⟩ = false

theorem sumV_new (k : Nat) (x : Int) : sumV k k x = 0 := by simp [sumV]
theorem sumN_new (k : Nat) (x : Int) : sumN k k x = 0 := by simp [sumN]
theorem SumsAt.skip {w : World} {g : Nat} {v : List Int} {k : Nat} (h : SumsAt w g v k) (hx : v[k]? = some (-1)) : SumsAt w g v (k + 1) := by
  refine ⟨fun i x hi => ?_, h.f⟩
  obtain ⟨h1, h2⟩ := h.c i x hi
  rw [h1, h2]
  by_cases hik : i = k
  · subst hik
    rw [hx] at hi; cases hi
    simp [sumV, sumN]
  · simp only [sumV, sumN, show i < k + 1 ↔ i < k by omega]
    exact ⟨trivial, trivial⟩
theorem SumsAt.step {w : World} {g : Nat} {v : List Int} {k : Nat} {x : Int} (h : SumsAt w g v k) (hx : v[k]? = some x) (h1 : x ≠ -1) :
    SumsAt ((w.setCell ⟨g, k * 2, none⟩ (.int .i64 x)).setCell ⟨g, k * 2 + 1, none⟩ (.int .i64 1)) g v (k + 1) := by
  refine ⟨fun i y hi => ?_, fun j => by rw [World.frozen?_setCell, World.frozen?_setCell]; exact h.f j⟩
  obtain ⟨g1, g2⟩ := h.c i y hi
  obtain ⟨e1, e2⟩ := h.c k x hx
  by_cases hik : i = k
  · subst hik
    rw [hx] at hi; cases hi
    refine ⟨?_, ?_⟩
    · rw [World.cell?_setCell_other _ _ _ _ (by simp)]
      rw [World.cell?_setCell_same' _ _ _ (by rw [e1]; rfl)]
      simp [sumV, h1]
    · rw [World.cell?_setCell_same' _ _ _ (by rw [World.cell?_setCell_other _ _ _ _ (by simp), e2]; rfl)]
      simp [sumN, h1]
  · rw [World.cell?_setCell_other _ _ _ _ (by simp; first | done | omega), World.cell?_setCell_other _ _ _ _ (by simp; first | done | omega), World.cell?_setCell_other _ _ _ _ (by simp; first | done | omega), World.cell?_setCell_other _ _ _ _ (by simp; first | done | omega), g1, g2]
    simp only [sumV, sumN, show i < k + 1 ↔ i < k by omega]
    exact ⟨trivial, trivial⟩
theorem SumsAt.drewN {w : World} {g : Nat} {v : List Int} {k : Nat} (h : SumsAt w g v k) (q : Nat) : SumsAt (w.drewN q) g v k := ⟨h.c, h.f⟩

/-- one number is added -/
def AddRes (w : World) (g : Nat) (v : List Int) (k : Nat) (e : Ending) (w' : World) : Prop := e = .returned (.tuple #[]) ∧ SumsAt w' g v (k + 1) ∧ w.grownBy w' (some g) ∧ w'.heap.size = w.heap.size
theorem grown_set2 (w : World) (g i j : Nat) (a b : Value) : w.grownBy ((w.setCell ⟨g, i, none⟩ a).setCell ⟨g, j, none⟩ b) (some g) :=
  ⟨rfl, rfl, rfl, by simp, fun k _ hk => by rw [heap_setCell_other _ _ _ _ (fun e => hk (by rw [e])), heap_setCell_other _ _ _ _ (fun e => hk (by rw [e]))]⟩

theorem add_any (g b : Nat) (v : List Int) (n k : Nat) (x : Int) (w : World) (hs : SumsAt w g v k) (hx : v[k]? = some x) (hk : k < n) (hn : n ≤ 1000) (hgr : grey x = true) (hb : w.cell? ⟨b, 0, none⟩ = some (.slice (some ⟨g, 0, none⟩) n n)) (hbg : b ≠ g) :
    Calls Try.prog 60 #[.int .i64 k, .int .i64 x, .pointer (some ⟨b, 0, none⟩)] w (AddRes w g v k) := by
  obtain ⟨x1, x2⟩ := grey_iff.1 hgr
  have k0 : (0 : Int) ≤ (k : Int) := by omega
  have k1 : (k : Int) < (n : Int) := by omega
  obtain ⟨c0, c1⟩ := hs.c k x hx
  rw [sumV_new] at c0
  rw [sumN_new] at c1
  have f0 := hs.f (k * 2)
  have f1 := hs.f (k * 2 + 1)
  have ha : (⟨g, 0, none⟩ : Addr).add (k * 2) = ⟨g, k * 2, none⟩ := addr_lit _ _
  by_cases h1 : x = -1
  · subst h1
    have HS := Lib.hid (hs.skip hx)
    clear hs hx
    go_enter Try.func60, Try.ntmps60
    go_wp2_with fail
    go_end0
    exact ⟨rfl, HS.out, World.grownBy.refl _ _, rfl⟩
  · have d1 : (x == -1) = false := by simpa using h1
    have HS := Lib.hid (hs.step hx h1)
    have H1 := Lib.hid h1; clear h1
    clear hs hx
    go_enter Try.func60, Try.ntmps60
    go_wp2_with fail
    go_region
    go_wp2_with fail
    go_region
    go_wp2_with fail
    go_end0
    have hg := grown_set2 w g (k * 2) (k * 2 + 1) (.int .i64 x) (.int .i64 1)
    exact ⟨rfl, ⟨HS.out.c, HS.out.f⟩, ⟨hg.os, hg.tape, hg.output, hg.size, hg.block⟩, by simp⟩

theorem size_pair : (Try.prog.info? 82).map (fun i => (i.zero, i.size, i.bytes)) = some (some (.agg #[.int .i64 0, .int .i64 0]), 2, 16) := by kernel_rfl
theorem madePairs_get (n j : Nat) (hj : j < n * 2) : (madeCells #[.int .i64 0, .int .i64 0] (n * 2))[j]? = some (.int .i64 0) := by
  unfold madeCells
  rw [Array.getElem?_map, Array.getElem?_range, if_pos hj]
  simp
  rcases Nat.mod_two_eq_zero_or_one j with h | h <;> rw [h] <;> rfl
theorem SumsAt.made (w : World) (v : List Int) (n : Nat) (hn : v.length = n) (t : TypeId) : SumsAt (w.alloc (.cells (madeCells #[.int .i64 0, .int .i64 0] (n * 2)) t)) w.heap.size v 0 := by
  have h := heap_alloc_new w (.cells (madeCells #[.int .i64 0, .int .i64 0] (n * 2)) t)
  refine ⟨fun i x hi => ?_, fun j => frozen_of_row _ _ _ _ _ h⟩
  have hlt := (List.getElem?_eq_some_iff.1 hi).1
  rw [cell_of_row _ _ _ _ _ _ h, cell_of_row _ _ _ _ _ _ h]
  exact ⟨madePairs_get n (i * 2) (by omega), madePairs_get n (i * 2 + 1) (by omega)⟩
theorem SumsAt.below {w w' : World} {g B : Nat} {v : List Int} {k : Nat} (h : SumsAt w g v k) (hb : Below B w w') (hg : g < B) : SumsAt w' g v k :=
  ⟨fun i x hi => by rw [hb.cell (by simpa using hg), hb.cell (by simpa using hg)]; exact h.c i x hi, fun j => by rw [hb.frozen (by simpa using hg)]; exact h.f j⟩

def LevelRes (ww : Int) (v : List Int) (w : World) (e : Ending) (w' : World) : Prop := ∃ A n c, e = .returned (.tuple #[.slice A n c, .int .i64 (if levelOk ww v then 0 else 1)]) ∧ Below w.heap.size w w'

theorem level_no (A : Option Addr) (n c : Nat) (v : List Int) (ww : Int) (w : World) (hI : Ints w w.heap.size A n v) (hn : n ≤ 1000) (bw : i64b ww) (hok : levelOk ww v = false) :
    Calls Try.prog 37 #[.int .i64 ww, .slice A n c, .slice none 0 0] w (LevelRes ww v w) := by
  obtain ⟨bw1, bw2⟩ := bw
  have hno := Lib.hid (mt (levelOk_iff (w := ww) (v := v)).2 (by rw [hok]; simp))
  have HOK := Lib.hid hok; clear hok
  have hl := Lib.hid hI.length
  have hB : ∀ a b : Obj, Below w.heap.size w ((w.alloc a).alloc b) := fun a b => ((Below.refl _ _).alloc (Nat.le_refl _) _).alloc (by simp) _
  have fin : ∀ W, Below w.heap.size w W → LevelRes ww v w (.returned (.tuple #[.slice none 0 0, .int .i64 1])) W := fun W hW => ⟨none, 0, 0, by rw [HOK.out]; rfl, hW⟩
  have FIN := Lib.hid fin; clear fin
  by_cases h1 : ww < 1
  · have d1 : decide (ww < 1) = true := decide_eq_true h1
    go_enter Try.func37, Try.ntmps37
    go_wp2_with fail
    go_ret2
    exact FIN.out _ (hB _ _)
  have d1 : decide (ww < 1) = false := decide_eq_false h1
  by_cases h2 : 256 < ww
  · have d2 : decide (256 < ww) = true := decide_eq_true h2
    go_enter Try.func37, Try.ntmps37
    go_wp2_with fail
    go_ret2
    exact FIN.out _ (hB _ _)
  have d2 : decide (256 < ww) = false := decide_eq_false h2
  obtain ⟨q, rfl⟩ : ∃ q : Nat, ww = q := ⟨ww.toNat, by omega⟩
  have q1 : (1 : Int) ≤ (q : Int) := by omega
  cases h3 : ((n : Int) % (q : Int) != 0)
  case true =>
    go_enter Try.func37, Try.ntmps37
    go_wp2_with fail
    go_ret2
    exact FIN.out _ (hB _ _)
  by_cases h4 : (q : Int) * 256 < n
  · have d4 : decide ((q : Int) * 256 < (n : Int)) = true := decide_eq_true h4
    go_enter Try.func37, Try.ntmps37
    go_wp2_with fail
    go_ret2
    exact FIN.out _ (hB _ _)
  have d4 : decide ((q : Int) * 256 < (n : Int)) = false := decide_eq_false h4
  have hany : v.any (fun x => !grey x) = true := by
    cases e : v.any (fun x => !grey x) with
    | true => rfl
    | false =>
      refine absurd ⟨by omega, by omega, ?_, ?_, fun x hx => ?_⟩ hno.out
      · rw [hl.out]; simpa using h3
      · rw [hl.out]; omega
      · have := List.any_eq_false.1 e x hx; simpa using this
  have HCON : Hid (∀ W, Below w.heap.size w W → Calls Try.prog 58 #[.slice A n c, .func (.func 57) #[] #[]] W fun e w' => e = .returned (.bool true) ∧ W = w') := Lib.hid fun W hW => by
    have := containsL_any w.heap.size _ _ lodd_any (run_callFunc_go Try.func57 (by kernel_rfl) (by kernel_rfl)) A n c v W (hI.below hW (Nat.le_refl _))
    rwa [hany] at this
  clear hany hno hI
  go_enter Try.func37, Try.ntmps37
  go_wp2_with fail
  refine (HCON.out _ (hB _ _)).mono ?_
  rintro e w1 ⟨rfl, rfl⟩
  go_wp2_with fail
  go_ret2
  exact FIN.out _ (hB _ _)

/-- Level's variables -/
structure LvAt (W : World) (B : Nat) (q n c : Nat) (A : Option Addr) : Prop where
  c0 : W.cell? ⟨B, 0, none⟩ = some (.int .i64 q)
  c1 : W.cell? ⟨B + 1, 0, none⟩ = some (.slice A n c)
  c3 : W.cell? ⟨B + 1 + 1 + 1, 0, none⟩ = some (.slice (some ⟨B + 1 + 1, 0, none⟩) n n)
  z : B + 4 ≤ W.heap.size
theorem LvAt.new (w : World) (q n c : Nat) (A : Option Addr) (o : Obj) (t1 t2 t3 : TypeId) :
    LvAt ((((w.alloc (.cells #[.int .i64 q] t1)).alloc (.cells #[.slice A n c] t2)).alloc o).alloc (.cells #[.slice (some ⟨w.heap.size + 1 + 1, 0, none⟩) n n] t3)) w.heap.size q n c A where
  c0 := by rw [World.cell?_alloc_lt _ _ _ (by simp; first | done | omega), World.cell?_alloc_lt _ _ _ (by simp; first | done | omega), World.cell?_alloc_lt _ _ _ (by simp), cell_of_row _ _ _ _ _ _ (heap_alloc_new w _)]; rfl
  c1 := by
    have h := heap_alloc_new (w.alloc (.cells #[.int .i64 q] t1)) (.cells #[.slice A n c] t2)
    rw [World.size_alloc] at h
    rw [World.cell?_alloc_lt _ _ _ (by simp; first | done | omega), World.cell?_alloc_lt _ _ _ (by simp), cell_of_row _ _ _ _ _ _ h]; rfl
  c3 := by
    have h := heap_alloc_new (((w.alloc (.cells #[.int .i64 q] t1)).alloc (.cells #[.slice A n c] t2)).alloc o) (.cells #[.slice (some ⟨w.heap.size + 1 + 1, 0, none⟩) n n] t3)
    simp only [World.size_alloc] at h
    rw [cell_of_row _ _ _ _ _ _ h]; rfl
  z := by simp
theorem LvAt.grown {W W' : World} {B q n c : Nat} {A : Option Addr} (h : LvAt W B q n c A) (hg : W.grownBy W' (some (B + 1 + 1))) : LvAt W' B q n c A :=
  ⟨hg.cell h.c0 (by simp; omega), hg.cell h.c1 (by simp), hg.cell h.c3 (by simp), Nat.le_trans h.z hg.size⟩
theorem LvAt.below {W W' : World} {B q n c D : Nat} {A : Option Addr} (h : LvAt W B q n c A) (hb : Below D W W') (hD : B + 4 ≤ D) (hz : B + 4 ≤ W'.heap.size) : LvAt W' B q n c A :=
  ⟨by rw [hb.cell (by simp; omega)]; exact h.c0, by rw [hb.cell (by simp; omega)]; exact h.c1, by rw [hb.cell (by simp; omega)]; exact h.c3, hz⟩

set_option maxRecDepth 100000 in
set_option maxHeartbeats 1600000 in
theorem level_yes (A : Option Addr) (n c : Nat) (v : List Int) (q : Nat) (w : World) (hI : Ints w w.heap.size A n v) (hn : n ≤ 1000) (hok : levelOk q v = true) :
    Calls Try.prog 37 #[.int .i64 q, .slice A n c, .slice none 0 0] w (LevelRes q v w) := by
  obtain ⟨q1, q2, q3, q4, q5⟩ := levelOk_iff.1 hok
  have HOK := Lib.hid hok; clear hok
  have hl := Lib.hid hI.length
  rw [hl.out] at q3 q4
  have hB : ∀ a b : Obj, Below w.heap.size w ((w.alloc a).alloc b) := fun a b => ((Below.refl _ _).alloc (Nat.le_refl _) _).alloc (by simp) _
  have d1 : decide ((q : Int) < 1) = false := decide_eq_false (by omega)
  have d2 : decide ((256 : Int) < (q : Int)) = false := decide_eq_false (by omega)
  have d3 : ((n : Int) % (q : Int) != 0) = false := by simpa using q3
  have d4 : decide ((q : Int) * 256 < (n : Int)) = false := decide_eq_false (by omega)
  have hany : v.any (fun x => !grey x) = false := by
    rw [List.any_eq_false]
    intro x hx
    simp [q5 x hx]
  have HCON : Hid (∀ W, Below w.heap.size w W → Calls Try.prog 58 #[.slice A n c, .func (.func 57) #[] #[]] W fun e w' => e = .returned (.bool false) ∧ W = w') := Lib.hid fun W hW => by
    have := containsL_any w.heap.size _ _ lodd_any (run_callFunc_go Try.func57 (by kernel_rfl) (by kernel_rfl)) A n c v W (hI.below hW (Nat.le_refl _))
    rwa [hany] at this
  have Q5 := Lib.hid q5
  clear hany q3 q5
  obtain ⟨i0, hi0, hz0, hz1, hz2⟩ := info_parts size_pair
  have hmk : ∀ W : World, (Instr.makeSlice 94 (.int .i64 (n : Int)) (.int .i64 (n : Int))).run Try.prog W = .ok (.slice (some ⟨W.heap.size, 0, none⟩) n n) (W.alloc (.cells (madeCells #[.int .i64 0, .int .i64 0] (n * 2)) 82)) := fun W => by
    have := run_make (P := Try.prog) W 94 82 i0 _ Try.underlying94 hi0 hz0 .i64 .i64 n n (by omega) (Int.le_refl _) (by rw [hz2]; omega) (by omega)
    rw [hz1, Int.toNat_natCast] at this
    exact this
  go_enter Try.func37, Try.ntmps37
  go_wp2_with fail
  refine (HCON.out _ (hB _ _)).mono ?_
  rintro e w1 ⟨rfl, rfl⟩
  clear HCON
  go_wp2_with fail
  have hs0 : Hid (SumsAt (((w.alloc (.cells #[.int .i64 q] 3)).alloc (.cells #[.slice A n c] 25)).alloc (.cells (madeCells #[.int .i64 0, .int .i64 0] (n * 2)) 82)) (w.heap.size + 1 + 1) v 0) := Lib.hid (by
    have := SumsAt.made ((w.alloc (.cells #[.int .i64 q] 3)).alloc (.cells #[.slice A n c] 25)) v n hl.out 82
    simpa using this)
  have hlv0 : Hid (LvAt ((((w.alloc (.cells #[.int .i64 q] 3)).alloc (.cells #[.slice A n c] 25)).alloc (.cells (madeCells #[.int .i64 0, .int .i64 0] (n * 2)) 82)).alloc (.cells #[.slice (some ⟨w.heap.size + 1 + 1, 0, none⟩) n n] 94)) w.heap.size q n c A) := Lib.hid (LvAt.new w q n c A _ _ _ _)
  have hb0 : Below w.heap.size w ((((w.alloc (.cells #[.int .i64 q] 3)).alloc (.cells #[.slice A n c] 25)).alloc (.cells (madeCells #[.int .i64 0, .int .i64 0] (n * 2)) 82)).alloc (.cells #[.slice (some ⟨w.heap.size + 1 + 1, 0, none⟩) n n] 94)) := (((hB _ _).alloc (by simp; omega) _).alloc (by simp; omega) _)
  go_loopw [53] (fun i wr => ∃ k : Nat, k ≤ n ∧ i = .int .i64 k ∧ Hid (SumsAt wr (w.heap.size + 1 + 1) v k) ∧ Hid (LvAt wr w.heap.size q n c A) ∧ Below w.heap.size w wr) (fun i _ => n - (intOf i).toNat)
  case atStart => exact ⟨0, by omega, rfl, Lib.hid (hs0.out.below ((Below.refl (w.heap.size + 3) _).alloc (by simp) _) (by omega)), hlv0, hb0⟩
  case round =>
    obtain ⟨k, hk, rfl, hs, hlv, hbk⟩ := hrel
    clear hs0 hlv0 hb0
    by_cases hlt : k < n
    · obtain ⟨ad, x, rfl, hb, hx, hm, hc, hlo, hhi⟩ := (hI.below hbk (Nat.le_refl _)).get hlt
      obtain ⟨l0, l1, l3, lz⟩ := hlv.out
      have HADD := Lib.hid (add_any (w.heap.size + 1 + 1) (w.heap.size + 1 + 1 + 1) v n k x wr hs.out hx hlt hn (Q5.out x hm) l3 (by omega))
      have HX := Lib.hid hx; clear hx hm
      have k0 : (0 : Int) ≤ (k : Int) := by omega
      have k1 : (k : Int) < (n : Int) := by omega
      have t0 : decide ((k : Int) < (n : Int)) = true := decide_eq_true k1
      go_wp2_with fail
      refine HADD.out.mono ?_
      clear HADD
      rintro e w2 ⟨rfl, hs2, hg2, hz2⟩
      have HS2 := Lib.hid hs2; clear hs2
      have HLV := Lib.hid (hlv.out.grown hg2)
      have hbk2 : Below w.heap.size w w2 := hbk.grown hg2 hbk.size (fun j hj => by cases hj; omega)
      clear hg2 hz2
      go_wp2_with fail
      go_roundw
      case rel => exact ⟨k + 1, by omega, by go_num, HS2, HLV, hbk2⟩
      case measure => simp only [intOf]; omega
    · have t0 : decide ((k : Int) < (n : Int)) = false := decide_eq_false (by omega)
      obtain rfl : k = n := by omega
      obtain ⟨wo, rfl⟩ : ∃ wo : World, wo = wr := ⟨_, rfl⟩
      obtain ⟨l0, l1, l3, lz⟩ := hlv.out
      go_wp2_with fail
      go_loopw [65] (fun i wr => i = .int .i64 0 ∧ wr = wo) (fun _ _ => 0)
      case atStart => exact ⟨rfl, rfl⟩
      case round =>
        obtain ⟨rfl, rfl⟩ := hrel
        have HCL := Lib.hid (clone_any A k c v wr ((hI.below hbk (Nat.le_refl _)).more hbk.size) hn)
        go_wp2_with fail
        refine HCL.out.mono ?_
        clear HCL
        intro e w3 h3
        obtain ⟨A3, c3, rfl, hown3, hb3⟩ := h3
        have hlv3 := Lib.hid (hlv.out.below hb3 (by have := hlv.out.z; exact this) (Nat.le_trans hlv.out.z hb3.size))
        have hs3 := Lib.hid (hs.out.below hb3 (by omega))
        have hbk3 : Below w.heap.size w w3 := hbk.trans (hb3.mono hbk.size)
        have hz3 : w.heap.size + 4 ≤ wr.heap.size := lz
        clear hb3 l0 l1 l3 lz hlv hs
        obtain ⟨l0, l1, l3, lz⟩ := hlv3.out
        go_wp2_with fail
        obtain ⟨wp, rfl⟩ : ∃ wp : World, wp = wr := ⟨_, rfl⟩
        go_loopw [118] (fun i wr => ∃ j : Nat, j ≤ k ∧ i = .int .i64 j ∧ Hid (SumsAt wr (w.heap.size + 1 + 1) v k) ∧ Hid (LvAt wr w.heap.size q k c A) ∧ Below w.heap.size w wr ∧ Hid (wr.ownsRow wp.heap.size 3 1 (.slice A3 k c3) k (cellsI v))) (fun i _ => k - (intOf i).toNat)
        case atStart => exact ⟨0, by omega, rfl, hs3, hlv3, hbk3, Lib.hid hown3⟩
        case round =>
          clear hs3 hlv3 hbk3 hown3 l0 l1 l3 lz
          obtain ⟨j, hj, rfl, hs4, hlv4, hbk4, hrow⟩ := hrel
          by_cases hlt2 : j < k
          · obtain ⟨g, hA3, hg1, hg2, hg3, hgc⟩ := own_cells hrow.out (by omega)
            subst hA3
            obtain ⟨ad, x, rfl, hb, hx, hm, hc, hlo, hhi⟩ := (hI.below hbk4 (Nat.le_refl _)).get hlt2
            obtain ⟨l0, l1, l3, lz⟩ := hlv4.out
            obtain ⟨s0, s1⟩ := hs4.out.c j x hx
            have gr := Q5.out x hm
            obtain ⟨x1, x2⟩ := grey_iff.1 gr
            have hc5 : wr.cell? ⟨g, j, none⟩ = some (.int .i64 x) := hgc j _ (by rw [cellsI_get, hx]; rfl)
            have hf5 : wr.frozen? ⟨g, j, none⟩ = false := hrow.out.frozenAt j
            have ha : (⟨g, 0, none⟩ : Addr).add j = ⟨g, j, none⟩ := addr_lit _ _
            have ha2 : (⟨w.heap.size + 1 + 1, 0, none⟩ : Addr).add (j * 2) = ⟨w.heap.size + 1 + 1, j * 2, none⟩ := addr_lit _ _
            have j0 : (0 : Int) ≤ (j : Int) := by omega
            have j1 : (j : Int) < (k : Int) := by omega
            have t1 : decide ((j : Int) < (k : Int)) = true := decide_eq_true j1
            have HX := Lib.hid hx; clear hx hm gr hgc
            by_cases h1 : x = -1
            · subst h1
              clear s0 s1
              go_wp2_with fail
              go_roundw
              case rel => exact ⟨j + 1, by omega, by go_num, hs4, hlv4, hbk4, hrow⟩
              case measure => simp only [intOf]; omega
            · have e1 : (x == -1) = false := by simpa using h1
              have e2 : sumV k j x = x := by simp [sumV, h1, hlt2]
              have e3 : sumN k j x = 1 := by simp [sumN, h1, hlt2]
              rw [e2] at s0
              rw [e3] at s1
              have H1 := Lib.hid h1
              clear e2 e3 h1
              obtain ⟨hr1, hr2⟩ := hrow.out.stored j (.int .i64 x)
              have HROW : Hid ((wr.setCell ⟨g, j, none⟩ (.int .i64 x)).ownsRow wp.heap.size 3 1 (.slice (some ⟨g, 0, none⟩) k c3) k (cellsI v)) := Lib.hid (by
                have : (cellsI v).set j (.int .i64 x) = cellsI v := by
                  refine List.ext_getElem? fun i => ?_
                  rw [List.getElem?_set]
                  by_cases h : j = i
                  · subst h
                    rw [if_pos rfl, cellsI_get, HX.out]
                    rw [cellsI_length, if_pos (by rw [hl.out]; exact hlt2)]; rfl
                  · rw [if_neg h]
                rwa [this] at hr1)
              clear hr1 hr2
              have hbs : Below (w.heap.size + 4) wr (wr.setCell ⟨g, j, none⟩ (.int .i64 x)) := (Below.refl _ _).setCell (p := ⟨g, j, none⟩) (by simp only; omega) _
              have HS6 := Lib.hid (hs4.out.below hbs (by omega))
              have HL6 := Lib.hid (hlv4.out.below hbs (Nat.le_refl _) (Nat.le_trans hlv4.out.z hbs.size))
              have hb6 := hbk4.trans (hbs.mono (by omega))
              clear hbs
              go_wp2_with fail
              go_region
              go_wp2_with fail
              go_roundw
              case rel => exact ⟨j + 1, by omega, by go_num, Lib.hid ⟨HS6.out.c, HS6.out.f⟩, Lib.hid ⟨HL6.out.c0, HL6.out.c1, HL6.out.c3, HL6.out.z⟩, hb6.drew, Lib.hid (by exact HROW.out)⟩
              case measure => simp only [intOf]; omega
          · have t1 : decide ((j : Int) < (k : Int)) = false := decide_eq_false (by omega)
            go_wp2_with fail
            go_ret2
            exact ⟨_, _, _, by rw [HOK.out]; rfl, hbk4⟩

theorem level_any (A : Option Addr) (n c : Nat) (v : List Int) (ww : Int) (w : World) (hI : Ints w w.heap.size A n v) (hn : n ≤ 1000) (bw : i64b ww) :
    Calls Try.prog 37 #[.int .i64 ww, .slice A n c, .slice none 0 0] w (LevelRes ww v w) := by
  cases h : levelOk ww v with
  | false => exact level_no A n c v ww w hI hn bw h
  | true =>
    obtain ⟨q, rfl⟩ : ∃ q : Nat, ww = q := ⟨ww.toNat, by have := (levelOk_iff.1 h).1; omega⟩
    exact level_yes A n c v q w hI hn h
end Go.Proofs.Ytfkkppagbhllgaa

/-
  THE WALKS OF slices.Index AND Contains, of ints.
-/
set_option linter.unusedVariables false
set_option linter.unusedSimpArgs false
namespace Go.Proofs.Ytfkkppagbhllgaa
open Go.RowKit

theorem idxE_any (B : Nat) (y : Int) (A : Option Addr) (n c : Nat) (xs : List Int) (w : World) (h : Ints w B A n xs) :
    Calls Try.prog 62 #[.slice A n c, .int .i64 y] w fun e w' => IdxRes' (xs.any (y == ·)) e ∧ w = w' := by
  have hn := h.len
  go_enter Try.func62, Try.ntmps62
  go_wp2
  go_loop [8] (fun i => ∃ k : Nat, k ≤ n ∧ i = .int .i64 k ∧ Hid ((xs.take k).any (y == ·) = false)) (fun i => n - (intOf i).toNat)
  case atStart => exact ⟨0, Nat.zero_le _, rfl, rfl⟩
  case round =>
    obtain ⟨k, hk, rfl, hany⟩ := hrel
    by_cases hlt : k < n
    · obtain ⟨ad, x, rfl, hb, hx, hm, hc, hlo, hhi⟩ := h.get hlt
      have HX := Lib.hid hx; clear hx
      cases hfx : (y == x) with
      | true =>
        have HFX := Lib.hid hfx
        go_wp2_with fail
        go_ret
        exact ⟨.yes (any_true' hm HFX.out) (by omega), rfl⟩
      | false =>
        have HFX := Lib.hid hfx
        go_wp2_with fail
        go_round
        case rel => exact ⟨k + 1, by omega, by go_num, by
          refine Lib.hid ?_
          rw [take_snoc' _ _ _ HX.out, List.any_append, hany.out]
          simpa using HFX.out⟩
        case measure => simp [intOf]; omega
    · go_wp2_with fail
      go_ret
      refine ⟨.no ?_, rfl⟩
      have := hany.out
      rw [List.take_of_length_le (by rw [h.length]; omega)] at this
      exact this
theorem containsE_any (B : Nat) (y : Int) (A : Option Addr) (n c : Nat) (xs : List Int) (w : World) (h : Ints w B A n xs) :
    Calls Try.prog 38 #[.slice A n c, .int .i64 y] w fun e w' => e = .returned (.bool (xs.any (y == ·))) ∧ w = w' := by
  go_enter Try.func38, Try.ntmps38
  go_wp2_with fail
  refine (idxE_any B y A n c xs _ h).mono ?_
  rintro e w' ⟨⟨r, rfl, h1, h2, hr⟩, rfl⟩
  have HR := Lib.hid hr; clear hr
  go_wp2_with fail
  go_ret
  exact ⟨ret_bool HR.out, rfl⟩
end Go.Proofs.Ytfkkppagbhllgaa

/-
  THE WALK OF tga.Grey.
-/
set_option linter.unusedVariables false
set_option linter.unusedSimpArgs false
set_option maxRecDepth 100000
namespace Go.Proofs.Ytfkkppagbhllgaa
open Go.RowKit

/-- what Grey hands back -/
def GreyRes (ww : Int) (v : List Int) (b : Int) (w : World) (e : Ending) (w' : World) : Prop :=
  Below w.heap.size w w' ∧ ((greyOk ww v b = false ∧ e = .returned (.tuple #[zimV, .int .i64 1])) ∨
    (greyOk ww v b = true ∧ ∃ A n c, e = .returned (.tuple #[imV ww ((v.length : Int) / ww) b A n c, .int .i64 0]) ∧ Byts w' w'.heap.size A n (greyT (b / 8).toNat v) ∧ n ≤ c ∧ c ≤ 9223372036854775807))
def zimC : Array Value := #[.int .i64 0, .int .i64 0, .int .i64 0, .slice none 0 0]

set_option maxHeartbeats 800000 in
theorem grey_no (A : Option Addr) (n c : Nat) (v : List Int) (ww b : Int) (w : World) (hI : Ints w w.heap.size A n v) (hn : n ≤ 1000) (bw : i64b ww) (h : greyOk ww v b = false) :
    Calls Try.prog 14 #[.int .i64 ww, .slice A n c, .int .i64 b] w (GreyRes ww v b w) := by
  have FIN : Hid (∀ W, Below w.heap.size w W → GreyRes ww v b w (.returned (.tuple #[zimV, .int .i64 1])) W) := Lib.hid fun W hW => ⟨hW, .inl ⟨h, rfl⟩⟩
  have HNO : Hid (¬ (levelOk ww v = true ∧ 0 < v.length ∧ v.any ((-1 : Int) == ·) = false ∧ (b = 24 ∨ b = 32))) := Lib.hid (fun hh => by rw [greyOk_iff.2 hh] at h; cases h)
  have hl := Lib.hid hI.length
  generalize hQ : GreyRes ww v b w = Qp at FIN ⊢
  clear hQ h
  have hB1 : Below w.heap.size w (w.alloc (.cells zimC 24)) := (Below.refl _ _).alloc (Nat.le_refl _) _
  have hs1 := SlotN.new w zim zimC 24 rfl
  have hI1 := (hI.below hB1 (Nat.le_refl _)).more hB1.size
  have KL := Lib.hid (level_any A n c v ww (w.alloc (.cells zimC 24)) hI1 hn bw)
  have KC := Lib.hid (fun W (hW : Below w.heap.size w W) => containsE_any w.heap.size (-1) A n c v W (hI.below hW (Nat.le_refl _)))
  have HS1 := Lib.hid hs1
  have HB1 := Lib.hid hB1
  have hz1 : w.heap.size < (w.alloc (.cells zimC 24)).heap.size := by simp
  have HZ1 := Lib.hid hz1
  clear hI hI1 hs1 hB1 bw hz1
  unfold zimC at *
  unfold LevelRes at KL
  have hn0 : Hid (n = 0 ∨ 0 < n) := Lib.hid (by omega)
  cases hlv : levelOk ww v with
  | false =>
    rw [hlv] at KL
    clear KC HNO
    clear hlv
    go_enter Try.func14, Try.ntmps14
    go_wp2_with fail
    refine KL.out.mono ?_
    rintro e w1 ⟨A1, n1, c1, rfl, hb1⟩
    have hs := HS1.out.below hb1 HZ1.out
    have HB := Lib.hid (HB1.out.trans (hb1.mono (Nat.le_of_lt HZ1.out)))
    clear hb1 KL HS1 HB1

    have c0 := hs.c 0 _ rfl
    have c1' := hs.c 1 _ rfl
    have c2 := hs.c 2 _ rfl
    have c3 := hs.c 3 _ rfl
    have f0 := hs.f 0
    have f1 := hs.f 1
    have f2 := hs.f 2
    have f3 := hs.f 3
    have hs2 := Lib.hid ((((hs.setAt 0 (by simp [zim]) (.int .i64 0)).setAt 1 (by simp [zim]) (.int .i64 0)).setAt 2 (by simp [zim]) (.int .i64 0)).setAt 3 (by simp [zim]) (.slice none 0 0))
    have HB2 := Lib.hid ((((HB.out.setCell (p := ⟨w.heap.size, 0, none⟩) (Nat.le_refl _) (.int .i64 0)).setCell (p := ⟨w.heap.size, 1, none⟩) (Nat.le_refl _) (.int .i64 0)).setCell (p := ⟨w.heap.size, 2, none⟩) (Nat.le_refl _) (.int .i64 0)).setCell (p := ⟨w.heap.size, 3, none⟩) (Nat.le_refl _) (.slice none 0 0))
    clear hs
    go_wp2_with fail
    generalize World.setCell _ ⟨w.heap.size, 3, none⟩ (.slice none 0 0) = V at *
    clear c0 c1' c2 c3 f0 f1 f2 f3
    have e0 := hs2.out.c 0 _ rfl
    have e1 := hs2.out.c 1 _ rfl
    have e2 := hs2.out.c 2 _ rfl
    have e3 := hs2.out.c 3 _ rfl
    exact bodyPost_ret (v := .tuple #[zimV, .int .i64 1]) (by simp [results, Try.results14, go_sem, e0, e1, e2, e3, zimV]) rfl (FIN.out _ HB2.out)
  | true =>
    rw [hlv] at KL
    rcases Nat.eq_zero_or_pos n with rfl | h0
    · clear KC HNO
      clear hlv
      go_enter Try.func14, Try.ntmps14
      go_wp2_with fail
      refine KL.out.mono ?_
      rintro e w1 ⟨A1, n1, c1, rfl, hb1⟩
      have hs := HS1.out.below hb1 HZ1.out
      have HB := Lib.hid (HB1.out.trans (hb1.mono (Nat.le_of_lt HZ1.out)))
      clear hb1 KL HS1 HB1

      have c0 := hs.c 0 _ rfl
      have c1' := hs.c 1 _ rfl
      have c2 := hs.c 2 _ rfl
      have c3 := hs.c 3 _ rfl
      have f0 := hs.f 0
      have f1 := hs.f 1
      have f2 := hs.f 2
      have f3 := hs.f 3
      have hs2 := Lib.hid ((((hs.setAt 0 (by simp [zim]) (.int .i64 0)).setAt 1 (by simp [zim]) (.int .i64 0)).setAt 2 (by simp [zim]) (.int .i64 0)).setAt 3 (by simp [zim]) (.slice none 0 0))
      have HB2 := Lib.hid ((((HB.out.setCell (p := ⟨w.heap.size, 0, none⟩) (Nat.le_refl _) (.int .i64 0)).setCell (p := ⟨w.heap.size, 1, none⟩) (Nat.le_refl _) (.int .i64 0)).setCell (p := ⟨w.heap.size, 2, none⟩) (Nat.le_refl _) (.int .i64 0)).setCell (p := ⟨w.heap.size, 3, none⟩) (Nat.le_refl _) (.slice none 0 0))
      clear hs
      go_wp2_with fail
      generalize World.setCell _ ⟨w.heap.size, 3, none⟩ (.slice none 0 0) = V at *
      clear c0 c1' c2 c3 f0 f1 f2 f3
      have e0 := hs2.out.c 0 _ rfl
      have e1 := hs2.out.c 1 _ rfl
      have e2 := hs2.out.c 2 _ rfl
      have e3 := hs2.out.c 3 _ rfl
      exact bodyPost_ret (v := .tuple #[zimV, .int .i64 1]) (by simp [results, Try.results14, go_sem, e0, e1, e2, e3, zimV]) rfl (FIN.out _ HB2.out)
    · have t0 : ((n : Int) == 0) = false := by rw [beq_eq_false_iff_ne]; omega
      cases hany : v.any ((-1 : Int) == ·) with
      | true =>
        rw [hany] at KC
        clear HNO hany
        clear hlv
        go_enter Try.func14, Try.ntmps14
        go_wp2_with fail
        refine KL.out.mono ?_
        rintro e w1 ⟨A1, n1, c1, rfl, hb1⟩
        have hs := HS1.out.below hb1 HZ1.out
        have HB := Lib.hid (HB1.out.trans (hb1.mono (Nat.le_of_lt HZ1.out)))
        clear hb1 KL HS1 HB1
        go_wp2_with fail
        refine (KC.out _ HB.out).mono ?_
        rintro e w2 ⟨rfl, rfl⟩
        clear KC
        have c0 := hs.c 0 _ rfl
        have c1' := hs.c 1 _ rfl
        have c2 := hs.c 2 _ rfl
        have c3 := hs.c 3 _ rfl
        have f0 := hs.f 0
        have f1 := hs.f 1
        have f2 := hs.f 2
        have f3 := hs.f 3
        have hs2 := Lib.hid ((((hs.setAt 0 (by simp [zim]) (.int .i64 0)).setAt 1 (by simp [zim]) (.int .i64 0)).setAt 2 (by simp [zim]) (.int .i64 0)).setAt 3 (by simp [zim]) (.slice none 0 0))
        have HB2 := Lib.hid ((((HB.out.setCell (p := ⟨w.heap.size, 0, none⟩) (Nat.le_refl _) (.int .i64 0)).setCell (p := ⟨w.heap.size, 1, none⟩) (Nat.le_refl _) (.int .i64 0)).setCell (p := ⟨w.heap.size, 2, none⟩) (Nat.le_refl _) (.int .i64 0)).setCell (p := ⟨w.heap.size, 3, none⟩) (Nat.le_refl _) (.slice none 0 0))
        clear hs
        go_wp2_with fail
        generalize World.setCell _ ⟨w.heap.size, 3, none⟩ (.slice none 0 0) = V at *
        clear c0 c1' c2 c3 f0 f1 f2 f3
        have e0 := hs2.out.c 0 _ rfl
        have e1 := hs2.out.c 1 _ rfl
        have e2 := hs2.out.c 2 _ rfl
        have e3 := hs2.out.c 3 _ rfl
        exact bodyPost_ret (v := .tuple #[zimV, .int .i64 1]) (by simp [results, Try.results14, go_sem, e0, e1, e2, e3, zimV]) rfl (FIN.out _ HB2.out)
      | false =>
        have t1 : (b != 24) = true := by
          rw [bne_iff_ne]; intro e; exact HNO.out ⟨hlv, by rw [hl.out]; exact h0, hany, .inl e⟩
        have t2 : (b != 32) = true := by
          rw [bne_iff_ne]; intro e; exact HNO.out ⟨hlv, by rw [hl.out]; exact h0, hany, .inr e⟩
        rw [hany] at KC
        clear HNO hany
        clear hlv
        go_enter Try.func14, Try.ntmps14
        go_wp2_with fail
        refine KL.out.mono ?_
        rintro e w1 ⟨A1, n1, c1, rfl, hb1⟩
        have hs := HS1.out.below hb1 HZ1.out
        have HB := Lib.hid (HB1.out.trans (hb1.mono (Nat.le_of_lt HZ1.out)))
        clear hb1 KL HS1 HB1
        go_wp2_with fail
        refine (KC.out _ HB.out).mono ?_
        rintro e w2 ⟨rfl, rfl⟩
        clear KC
        have c0 := hs.c 0 _ rfl
        have c1' := hs.c 1 _ rfl
        have c2 := hs.c 2 _ rfl
        have c3 := hs.c 3 _ rfl
        have f0 := hs.f 0
        have f1 := hs.f 1
        have f2 := hs.f 2
        have f3 := hs.f 3
        have hs2 := Lib.hid ((((hs.setAt 0 (by simp [zim]) (.int .i64 0)).setAt 1 (by simp [zim]) (.int .i64 0)).setAt 2 (by simp [zim]) (.int .i64 0)).setAt 3 (by simp [zim]) (.slice none 0 0))
        have HB2 := Lib.hid ((((HB.out.setCell (p := ⟨w.heap.size, 0, none⟩) (Nat.le_refl _) (.int .i64 0)).setCell (p := ⟨w.heap.size, 1, none⟩) (Nat.le_refl _) (.int .i64 0)).setCell (p := ⟨w.heap.size, 2, none⟩) (Nat.le_refl _) (.int .i64 0)).setCell (p := ⟨w.heap.size, 3, none⟩) (Nat.le_refl _) (.slice none 0 0))
        clear hs
        go_wp2_with fail
        generalize World.setCell _ ⟨w.heap.size, 3, none⟩ (.slice none 0 0) = V at *
        clear c0 c1' c2 c3 f0 f1 f2 f3
        have e0 := hs2.out.c 0 _ rfl
        have e1 := hs2.out.c 1 _ rfl
        have e2 := hs2.out.c 2 _ rfl
        have e3 := hs2.out.c 3 _ rfl
        exact bodyPost_ret (v := .tuple #[zimV, .int .i64 1]) (by simp [results, Try.results14, go_sem, e0, e1, e2, e3, zimV]) rfl (FIN.out _ HB2.out)
/- Grey: memory in its loop -/
/-- a variable lies apart from the row that is appended to -/
theorem slot_far {W W' : World} {g : Nat} {cs : List Value} {row : Option Nat} (h : SlotN W g cs) (hg : W.grownBy W' row) (hne : some g ≠ row) (hlt : g < W.heap.size) : SlotN W' g cs :=
  ⟨fun j u hj => (hg.cell_far ⟨g, j, none⟩ hlt hne).trans (h.c j u hj), fun j => (hg.frozen_far ⟨g, j, none⟩ hlt hne).trans (h.f j)⟩
theorem grown_set (W : World) (g j : Nat) (u : Value) : W.grownBy (W.setCell ⟨g, j, none⟩ u) (some g) :=
  ⟨rfl, rfl, rfl, by simp, fun k hk hne => by rw [Below.heap_setCell _ _ _ _ (fun e => hne (by rw [e]))]⟩
theorem own_cap {w : World} {base : Nat} {e : TypeId} {A : Option Addr} {n c : Nat} {xs : List Value} (h : w.ownsRow base e 1 (.slice A n c) n xs) : n ≤ c ∧ c ≤ 9223372036854775807 := by
  rcases h.2 with ⟨hv, h0⟩ | ⟨g, cap, cur, hv, _, _, h1, h2, _⟩
  · injection hv with _ _ h3; omega
  · injection hv with _ _ h3
    unfold maxLen at h2
    omega
theorem bytes_cons (b : UInt8) (l : List UInt8) : Lib.byteCells (b :: l) = Value.int .u8 (b.toNat : Int) :: Lib.byteCells l := rfl
theorem slice_head (ad : Addr) (n c k : Nat) (b : Int) (hb : b = ((k : Nat) : Int)) (hk : 0 < k) (h : k ≤ c) (W : World) :
    (Instr.slice 22 (.slice (some ad) n c) none (some (.int .i64 b)) none).run Try.prog W = .ok (.slice (some ad) k c) W := by
  subst hb
  rw [run_slice_h W 22 (some ad) n c (by kernel_rfl) .i64 _ (by omega) (by omega)]
  rw [show Try.prog.elem 22 = 5 from by kernel_rfl, Try.sizeOf5]
  simp only [Result.andThen, sliced]
  rw [if_neg (by omega)]
  simp [show ad.add 0 = ad from rfl]

set_option maxHeartbeats 1600000 in
theorem grey_yes (A : Option Addr) (n c q z : Nat) (v : List Int) (b : Int) (w : World) (hI : Ints w w.heap.size A n v) (hn : n ≤ 1000) (hz : (b = 24 ∧ z = 3) ∨ (b = 32 ∧ z = 4)) (h : greyOk q v b = true) :
    Calls Try.prog 14 #[.int .i64 q, .slice A n c, .int .i64 b] w (GreyRes q v b w) := by
  obtain ⟨g1, g2, g3, g4⟩ := greyOk_iff.1 h
  obtain ⟨q1, q2, q3, q4, q5⟩ := levelOk_iff.1 g1
  have hz8 : (b / 8).toNat = z := by omega
  have FIN : Hid (∀ A' n' c' W, Below w.heap.size w W → Byts W W.heap.size A' n' (greyT z v) → n' ≤ c' → c' ≤ 9223372036854775807 → GreyRes q v b w (.returned (.tuple #[imV q ((n / q : Nat) : Int) b A' n' c', .int .i64 0])) W) := Lib.hid fun A' n' c' W hW h1 h2 h3 => by
    refine ⟨hW, .inr ⟨h, A', n', c', ?_, by rw [hz8]; exact h1, h2, h3⟩⟩
    rw [hI.length]; rfl
  generalize hQ : GreyRes q v b w = Qp at FIN ⊢
  clear hQ h
  have hl := Lib.hid hI.length
  have h0 : 0 < n := by rw [← hl.out]; exact g2
  have hB1 : Below w.heap.size w (w.alloc (.cells zimC 24)) := (Below.refl _ _).alloc (Nat.le_refl _) _
  have hs1 := SlotN.new w zim zimC 24 rfl
  have hI1 := (hI.below hB1 (Nat.le_refl _)).more hB1.size
  have KL := Lib.hid (level_any A n c v q (w.alloc (.cells zimC 24)) hI1 hn (by unfold i64b; omega))
  have KC := Lib.hid (fun W (hW : Below w.heap.size w W) => containsE_any w.heap.size (-1) A n c v W (hI.below hW (Nat.le_refl _)))
  have HS1 := Lib.hid hs1
  have HB1 := Lib.hid hB1
  have hz1 : w.heap.size < (w.alloc (.cells zimC 24)).heap.size := by simp
  have HZ1 := Lib.hid hz1
  have HI := Lib.hid hI
  unfold LevelRes at KL
  rw [g1] at KL
  rw [g3] at KC
  have HG := Lib.hid (fun x (hx : x ∈ v) => grey_byte (q5 x hx) (fun e => by
    rw [List.any_eq_false] at g3
    exact g3 x hx (by rw [e]; rfl)))
  have t0 : ((n : Int) == 0) = false := by rw [beq_eq_false_iff_ne]; omega
  have td : Int.tdiv (n : Int) (q : Int) = ((n / q : Nat) : Int) := by rw [Int.tdiv_eq_ediv_of_nonneg (by omega)]; rfl
  have q0 : (q : Int) ≠ 0 := by omega
  have hdv : n / q ≤ 1000 := Nat.le_trans (Nat.div_le_self _ _) hn
  generalize n / q = hh at *
  have wd : IntKind.i64.wrap (hh : Int) = (hh : Int) := by rw [IntKind.wrap_i64]; omega
  clear hI hI1 hs1 hB1 hz1 g1 g2 g3 g4 q1 q2 q3 q4 q5 hz8
  unfold zimC at *
  obtain ⟨i0, hi0, hz0, hzz1, hzz2⟩ := info_parts size_u8
  rcases hz with ⟨rfl, rfl⟩ | ⟨rfl, rfl⟩
  · go_enter Try.func14, Try.ntmps14
    go_wp2_with fail
    refine KL.out.mono ?_
    rintro e w1 ⟨A1, n1, c1, rfl, hb1⟩
    have HS := Lib.hid (HS1.out.below hb1 HZ1.out)
    have HB := Lib.hid (HB1.out.trans (hb1.mono (Nat.le_of_lt HZ1.out)))
    have hw1 : w.heap.size < w1.heap.size := Nat.lt_of_lt_of_le HZ1.out hb1.size
    clear hb1 KL HS1 HB1
    go_wp2_with fail
    refine (KC.out _ HB.out).mono ?_
    rintro e w2 ⟨rfl, rfl⟩
    clear KC
    go_wp2_with fail
    have HM := Lib.hid (SlotN.new w1 [.int .i64 (q : Int), .int .i64 (hh : Int), .int .i64 24, .slice none 0 0] #[.int .i64 (q : Int), .int .i64 (hh : Int), .int .i64 24, .slice none 0 0] 24 rfl)
    have HS' := Lib.hid (HS.out.below ((Below.refl w1.heap.size w1).alloc (Nat.le_refl _) (.cells #[.int .i64 (q : Int), .int .i64 (hh : Int), .int .i64 24, .slice none 0 0] 24)) hw1)
    have HB' := Lib.hid (HB.out.alloc (Nat.le_of_lt hw1) (.cells #[.int .i64 (q : Int), .int .i64 (hh : Int), .int .i64 24, .slice none 0 0] 24))
    have hz2 : w1.heap.size < (w1.alloc (.cells #[.int .i64 (q : Int), .int .i64 (hh : Int), .int .i64 24, .slice none 0 0] 24)).heap.size := by simp
    clear HS HB
    go_loopw [49] (fun i wr => ∃ (k : Nat) (A' : Option Addr) (c' : Nat), k ≤ n ∧ i = .int .i64 k ∧ Hid (SlotN wr w1.heap.size [.int .i64 (q : Int), .int .i64 (hh : Int), .int .i64 24, .slice A' (k * 3) c']) ∧
      wr.ownsRow (w1.heap.size + 1) 5 1 (.slice A' (k * 3) c') (k * 3) (Lib.byteCells (greyT 3 (v.take k))) ∧ Hid (SlotN wr w.heap.size zim) ∧ Hid (Below w.heap.size w wr) ∧ w1.heap.size < wr.heap.size) (fun i _ => n - (intOf i).toNat)
    case atStart => exact ⟨0, none, 0, Nat.zero_le _, rfl, by simpa using HM, by rw [Nat.zero_mul, List.take_zero]; exact World.ownsRow_nil _ _ _ _, HS', HB', hz2⟩
    case round =>
      obtain ⟨k, A', c', hk, rfl, HM2, hown, HS2, HB2, hzr⟩ := hrel
      clear HM HS' HB' hz2
      by_cases hlt : k < n
      · have k1 : (k : Int) < (n : Int) := by omega
        have t1 : decide ((k : Int) < (n : Int)) = true := decide_eq_true k1
        obtain ⟨ad, x, rfl, hbl, hx, hm, hc, _, _⟩ := (HI.out.below HB2.out (Nat.le_refl _)).get hlt
        obtain ⟨b, rfl, hub⟩ := HG.out x hm
        have HT : Hid (greyT 3 (v.take (k + 1)) = greyT 3 (v.take k) ++ greyC 3 (b.toNat : Int)) := Lib.hid (by rw [take_snoc' _ _ _ hx, greyT_snoc])
        have HUB := Lib.hid hub
        have hb8 : b.toNat < 256 := b.toNat_lt
        have wu : IntKind.u8.wrap (b.toNat : Int) = (b.toNat : Int) := by rw [IntKind.wrap_u8]; omega
        clear hx hm hub
        have k0 : (0 : Int) ≤ (k : Int) := by omega
        go_wp2_with fail
        have HB8 := Lib.hid (HB2.out.alloc HB2.out.size (.cells #[.int .u8 (b.toNat : Int), .int .u8 (b.toNat : Int), .int .u8 (b.toNat : Int), .int .u8 255] 5))
        have hbb : Below wr.heap.size wr (wr.alloc (.cells #[.int .u8 (b.toNat : Int), .int .u8 (b.toNat : Int), .int .u8 (b.toNat : Int), .int .u8 255] 5)) := (Below.refl _ _).alloc (Nat.le_refl _) _
        have HM8 := Lib.hid (HM2.out.below hbb hzr)
        have HS8 := Lib.hid (HS2.out.below hbb (Nat.lt_of_le_of_lt (Nat.le_of_lt hw1) hzr))
        have HN8 := Lib.hid (heap_alloc_new wr (.cells #[.int .u8 (b.toNat : Int), .int .u8 (b.toNat : Int), .int .u8 (b.toNat : Int), .int .u8 255] 5))
        have HO8 := Lib.hid (hown.alloc (.cells #[.int .u8 (b.toNat : Int), .int .u8 (b.toNat : Int), .int .u8 (b.toNat : Int), .int .u8 255] 5))
        have hz8 : wr.heap.size < (wr.alloc (.cells #[.int .u8 (b.toNat : Int), .int .u8 (b.toNat : Int), .int .u8 (b.toNat : Int), .int .u8 255] 5)).heap.size := by simp
        clear HB2 HM2 HS2 hown hbb
        generalize wr.alloc (.cells #[.int .u8 (b.toNat : Int), .int .u8 (b.toNat : Int), .int .u8 (b.toNat : Int), .int .u8 255] 5) = W8 at *
        have hnews : ∀ j u, ([.int .u8 (b.toNat : Int), .int .u8 (b.toNat : Int), .int .u8 (b.toNat : Int)] : List Value)[j]? = some u → W8.cell? ((⟨wr.heap.size, 0, none⟩ : Addr).add j) = some u := fun j u hj => World.news_of_block HN8.out j u (by
          match j, hj with
          | 0, h => exact h
          | 1, h => exact h
          | 2, h => exact h
          | j + 3, h => simp at h)
        have HNW := Lib.hid hnews
        clear hnews
        have m3 := HM8.out.c 3 _ rfl
        have f3 := HM8.out.f 3
        have hza : w1.heap.size < W8.heap.size := Nat.lt_trans hzr hz8
        have w3 : IntKind.i64.wrap 3 = 3 := by rfl
        have hsl := slice_head ⟨wr.heap.size, 0, none⟩ 4 4 3 3 rfl (by omega) (by omega)
        go_region_law (refine step_append_lies _ (by rfl) _ _ _ (by rfl) (w1.heap.size + 1) 5 i0 _ 1 1 Try.underlying22 hi0 hz0 hzz1 hzz2 rfl (by omega) (.slice A' (k * 3) c') (k * 3) (Lib.byteCells (greyT 3 (v.take k))) (by rfl) HO8.out.drew ⟨wr.heap.size, 0, none⟩ 3 4 [.int .u8 (b.toNat : Int), .int .u8 (b.toNat : Int), .int .u8 (b.toNat : Int)] (by rfl) (by rfl) HNW.out (by simp [Value.oneCell']) (by omega) (by unfold maxLen; omega) (by omega) (by show _ ≤ W8.heap.size; omega) W8.heap.size rfl ?_; intro gg cap w9 hown9 hgr9 hat9 hlt9; have hne9 : some w1.heap.size ≠ (Value.slice A' (k * 3) c').ownBlock := (fun e => by have := (HO8.out.lt _ e.symm).1; omega); have HM9 := Lib.hid (slot_far (W := W8.drew) ⟨HM8.out.c, HM8.out.f⟩ hgr9 hne9 hza); have HS9 := Lib.hid (slot_far (W := W8.drew) ⟨HS8.out.c, HS8.out.f⟩ hgr9 (fun e => by have := (HO8.out.lt _ e.symm).1; omega) (Nat.lt_trans hw1 hza)); have HB9 := Lib.hid (HB8.out.drew.grown hgr9 HB8.out.size (fun j hj => by have := (HO8.out.lt _ hj).1; omega)); have HO9 := Lib.hid hown9; have m9 := HM9.out.c 3 _ rfl; have f9 := HM9.out.f 3; have hz9 : w1.heap.size < w9.heap.size := Nat.lt_of_lt_of_le hza hgr9.size; clear hown9 hgr9 hne9 hat9)
        have HM10 := Lib.hid (HM9.out.setAt 3 (by simp) (.slice (some ⟨gg, 0, none⟩) (k * 3 + 3) cap))
        have HS10 := Lib.hid (HS9.out.otherJ w1.heap.size 3 (by omega) (.slice (some ⟨gg, 0, none⟩) (k * 3 + 3) cap))
        have HB10 := Lib.hid (HB9.out.setCell (p := ⟨w1.heap.size, 3, none⟩) (Nat.le_of_lt hw1) (.slice (some ⟨gg, 0, none⟩) (k * 3 + 3) cap))
        have HO10 := Lib.hid (own_kept HO9.out (grown_set _ w1.heap.size 3 (.slice (some ⟨gg, 0, none⟩) (k * 3 + 3) cap)) (Nat.lt_succ_self _))
        have HE : Hid (Lib.byteCells (greyT 3 (v.take k)) ++ [.int .u8 (b.toNat : Int), .int .u8 (b.toNat : Int), .int .u8 (b.toNat : Int)] = Lib.byteCells (greyT 3 (v.take (k + 1)))) := Lib.hid (by
          rw [HT.out]
          unfold greyC
          rw [HUB.out]
          simp [Lib.byteCells])
        have hz10 : w1.heap.size < (w9.setCell ⟨w1.heap.size, 3, none⟩ (.slice (some ⟨gg, 0, none⟩) (k * 3 + 3) cap)).heap.size := by simpa using hz9
        clear HM8 HS8 HB8 HO8 HN8 HNW m3 f3 m9 f9 HM9 HS9 HB9 HO9 hz9 hza hz8 hsl
        go_wp2_with fail
        go_roundw
        case rel => exact ⟨k + 1, some ⟨gg, 0, none⟩, cap, by omega, by go_num, by rw [Nat.succ_mul]; exact HM10, by rw [Nat.succ_mul, ← HE.out]; exact HO10.out, HS10, HB10, hz10⟩
        case measure => simp only [intOf]; omega
      · have t1 : decide ((k : Int) < (n : Int)) = false := decide_eq_false (by omega)
        obtain rfl : k = n := by omega
        have m0 := HM2.out.c 0 _ rfl
        have m1 := HM2.out.c 1 _ rfl
        have m2 := HM2.out.c 2 _ rfl
        have m3 := HM2.out.c 3 _ rfl
        have s0 := HS2.out.c 0 _ rfl
        have s1 := HS2.out.c 1 _ rfl
        have s2 := HS2.out.c 2 _ rfl
        have s3 := HS2.out.c 3 _ rfl
        have f0 := HS2.out.f 0
        have f1 := HS2.out.f 1
        have f2 := HS2.out.f 2
        have f3 := HS2.out.f 3
        have HR := Lib.hid ((((HS2.out.setAt 0 (by simp [zim]) (.int .i64 (q : Int))).setAt 1 (by simp [zim]) (.int .i64 (hh : Int))).setAt 2 (by simp [zim]) (.int .i64 24)).setAt 3 (by simp [zim]) (.slice A' (k * 3) c'))
        have HB3 := Lib.hid ((((HB2.out.setCell (p := ⟨w.heap.size, 0, none⟩) (Nat.le_refl _) (.int .i64 (q : Int))).setCell (p := ⟨w.heap.size, 1, none⟩) (Nat.le_refl _) (.int .i64 (hh : Int))).setCell (p := ⟨w.heap.size, 2, none⟩) (Nat.le_refl _) (.int .i64 24)).setCell (p := ⟨w.heap.size, 3, none⟩) (Nat.le_refl _) (.slice A' (k * 3) c'))
        have HO := Lib.hid (own_kept (own_kept (own_kept (own_kept hown (grown_set _ w.heap.size 0 (.int .i64 (q : Int))) (by omega)) (grown_set _ w.heap.size 1 (.int .i64 (hh : Int))) (by omega)) (grown_set _ w.heap.size 2 (.int .i64 24)) (by omega)) (grown_set _ w.heap.size 3 (.slice A' (k * 3) c')) (by omega))
        have HV : Hid (v.take k = v) := Lib.hid (List.take_of_length_le (by rw [hl.out]; exact Nat.le_refl _))
        clear hown HS2 HB2 HM2
        go_wp2_with fail
        generalize World.setCell _ ⟨w.heap.size, 3, none⟩ (.slice A' (k * 3) c') = V at *
        clear s0 s1 s2 s3 f0 f1 f2 f3 m0 m1 m2 m3
        have e0 := HR.out.c 0 _ rfl
        have e1 := HR.out.c 1 _ rfl
        have e2 := HR.out.c 2 _ rfl
        have e3 := HR.out.c 3 _ rfl
        have HO' := HO.out
        rw [HV.out] at HO'
        have hcp := own_cap HO'
        exact bodyPost_ret (v := .tuple #[.agg #[.int .i64 (q : Int), .int .i64 (hh : Int), .int .i64 24, .slice A' (k * 3) c'], .int .i64 0]) (by simp [results, Try.results14, go_sem, e0, e1, e2, e3]) rfl (FIN.out A' (k * 3) c' _ HB3.out ⟨Rd.of_own HO', by have := hcp.1; have := hcp.2; omega⟩ hcp.1 hcp.2)
  · go_enter Try.func14, Try.ntmps14
    go_wp2_with fail
    refine KL.out.mono ?_
    rintro e w1 ⟨A1, n1, c1, rfl, hb1⟩
    have HS := Lib.hid (HS1.out.below hb1 HZ1.out)
    have HB := Lib.hid (HB1.out.trans (hb1.mono (Nat.le_of_lt HZ1.out)))
    have hw1 : w.heap.size < w1.heap.size := Nat.lt_of_lt_of_le HZ1.out hb1.size
    clear hb1 KL HS1 HB1
    go_wp2_with fail
    refine (KC.out _ HB.out).mono ?_
    rintro e w2 ⟨rfl, rfl⟩
    clear KC
    go_wp2_with fail
    have HM := Lib.hid (SlotN.new w1 [.int .i64 (q : Int), .int .i64 (hh : Int), .int .i64 32, .slice none 0 0] #[.int .i64 (q : Int), .int .i64 (hh : Int), .int .i64 32, .slice none 0 0] 24 rfl)
    have HS' := Lib.hid (HS.out.below ((Below.refl w1.heap.size w1).alloc (Nat.le_refl _) (.cells #[.int .i64 (q : Int), .int .i64 (hh : Int), .int .i64 32, .slice none 0 0] 24)) hw1)
    have HB' := Lib.hid (HB.out.alloc (Nat.le_of_lt hw1) (.cells #[.int .i64 (q : Int), .int .i64 (hh : Int), .int .i64 32, .slice none 0 0] 24))
    have hz2 : w1.heap.size < (w1.alloc (.cells #[.int .i64 (q : Int), .int .i64 (hh : Int), .int .i64 32, .slice none 0 0] 24)).heap.size := by simp
    clear HS HB
    go_loopw [49] (fun i wr => ∃ (k : Nat) (A' : Option Addr) (c' : Nat), k ≤ n ∧ i = .int .i64 k ∧ Hid (SlotN wr w1.heap.size [.int .i64 (q : Int), .int .i64 (hh : Int), .int .i64 32, .slice A' (k * 4) c']) ∧
      wr.ownsRow (w1.heap.size + 1) 5 1 (.slice A' (k * 4) c') (k * 4) (Lib.byteCells (greyT 4 (v.take k))) ∧ Hid (SlotN wr w.heap.size zim) ∧ Hid (Below w.heap.size w wr) ∧ w1.heap.size < wr.heap.size) (fun i _ => n - (intOf i).toNat)
    case atStart => exact ⟨0, none, 0, Nat.zero_le _, rfl, by simpa using HM, by rw [Nat.zero_mul, List.take_zero]; exact World.ownsRow_nil _ _ _ _, HS', HB', hz2⟩
    case round =>
      obtain ⟨k, A', c', hk, rfl, HM2, hown, HS2, HB2, hzr⟩ := hrel
      clear HM HS' HB' hz2
      by_cases hlt : k < n
      · have k1 : (k : Int) < (n : Int) := by omega
        have t1 : decide ((k : Int) < (n : Int)) = true := decide_eq_true k1
        obtain ⟨ad, x, rfl, hbl, hx, hm, hc, _, _⟩ := (HI.out.below HB2.out (Nat.le_refl _)).get hlt
        obtain ⟨b, rfl, hub⟩ := HG.out x hm
        have HT : Hid (greyT 4 (v.take (k + 1)) = greyT 4 (v.take k) ++ greyC 4 (b.toNat : Int)) := Lib.hid (by rw [take_snoc' _ _ _ hx, greyT_snoc])
        have HUB := Lib.hid hub
        have hb8 : b.toNat < 256 := b.toNat_lt
        have wu : IntKind.u8.wrap (b.toNat : Int) = (b.toNat : Int) := by rw [IntKind.wrap_u8]; omega
        clear hx hm hub
        have k0 : (0 : Int) ≤ (k : Int) := by omega
        go_wp2_with fail
        have HB8 := Lib.hid (HB2.out.alloc HB2.out.size (.cells #[.int .u8 (b.toNat : Int), .int .u8 (b.toNat : Int), .int .u8 (b.toNat : Int), .int .u8 255] 5))
        have hbb : Below wr.heap.size wr (wr.alloc (.cells #[.int .u8 (b.toNat : Int), .int .u8 (b.toNat : Int), .int .u8 (b.toNat : Int), .int .u8 255] 5)) := (Below.refl _ _).alloc (Nat.le_refl _) _
        have HM8 := Lib.hid (HM2.out.below hbb hzr)
        have HS8 := Lib.hid (HS2.out.below hbb (Nat.lt_of_le_of_lt (Nat.le_of_lt hw1) hzr))
        have HN8 := Lib.hid (heap_alloc_new wr (.cells #[.int .u8 (b.toNat : Int), .int .u8 (b.toNat : Int), .int .u8 (b.toNat : Int), .int .u8 255] 5))
        have HO8 := Lib.hid (hown.alloc (.cells #[.int .u8 (b.toNat : Int), .int .u8 (b.toNat : Int), .int .u8 (b.toNat : Int), .int .u8 255] 5))
        have hz8 : wr.heap.size < (wr.alloc (.cells #[.int .u8 (b.toNat : Int), .int .u8 (b.toNat : Int), .int .u8 (b.toNat : Int), .int .u8 255] 5)).heap.size := by simp
        clear HB2 HM2 HS2 hown hbb
        generalize wr.alloc (.cells #[.int .u8 (b.toNat : Int), .int .u8 (b.toNat : Int), .int .u8 (b.toNat : Int), .int .u8 255] 5) = W8 at *
        have hnews : ∀ j u, ([.int .u8 (b.toNat : Int), .int .u8 (b.toNat : Int), .int .u8 (b.toNat : Int), .int .u8 255] : List Value)[j]? = some u → W8.cell? ((⟨wr.heap.size, 0, none⟩ : Addr).add j) = some u := fun j u hj => World.news_of_block HN8.out j u (by
          match j, hj with
          | 0, h => exact h
          | 1, h => exact h
          | 2, h => exact h
          | j + 3, h => exact h)
        have HNW := Lib.hid hnews
        clear hnews
        have m3 := HM8.out.c 3 _ rfl
        have f3 := HM8.out.f 3
        have hza : w1.heap.size < W8.heap.size := Nat.lt_trans hzr hz8
        have w3 : IntKind.i64.wrap 4 = 4 := by rfl
        have hsl := slice_head ⟨wr.heap.size, 0, none⟩ 4 4 4 4 rfl (by omega) (by omega)
        go_region_law (refine step_append_lies _ (by rfl) _ _ _ (by rfl) (w1.heap.size + 1) 5 i0 _ 1 1 Try.underlying22 hi0 hz0 hzz1 hzz2 rfl (by omega) (.slice A' (k * 4) c') (k * 4) (Lib.byteCells (greyT 4 (v.take k))) (by rfl) HO8.out.drew ⟨wr.heap.size, 0, none⟩ 4 4 [.int .u8 (b.toNat : Int), .int .u8 (b.toNat : Int), .int .u8 (b.toNat : Int), .int .u8 255] (by rfl) (by rfl) HNW.out (by simp [Value.oneCell']) (by omega) (by unfold maxLen; omega) (by omega) (by show _ ≤ W8.heap.size; omega) W8.heap.size rfl ?_; intro gg cap w9 hown9 hgr9 hat9 hlt9; have hne9 : some w1.heap.size ≠ (Value.slice A' (k * 4) c').ownBlock := (fun e => by have := (HO8.out.lt _ e.symm).1; omega); have HM9 := Lib.hid (slot_far (W := W8.drew) ⟨HM8.out.c, HM8.out.f⟩ hgr9 hne9 hza); have HS9 := Lib.hid (slot_far (W := W8.drew) ⟨HS8.out.c, HS8.out.f⟩ hgr9 (fun e => by have := (HO8.out.lt _ e.symm).1; omega) (Nat.lt_trans hw1 hza)); have HB9 := Lib.hid (HB8.out.drew.grown hgr9 HB8.out.size (fun j hj => by have := (HO8.out.lt _ hj).1; omega)); have HO9 := Lib.hid hown9; have m9 := HM9.out.c 3 _ rfl; have f9 := HM9.out.f 3; have hz9 : w1.heap.size < w9.heap.size := Nat.lt_of_lt_of_le hza hgr9.size; clear hown9 hgr9 hne9 hat9)
        have HM10 := Lib.hid (HM9.out.setAt 3 (by simp) (.slice (some ⟨gg, 0, none⟩) (k * 4 + 4) cap))
        have HS10 := Lib.hid (HS9.out.otherJ w1.heap.size 3 (by omega) (.slice (some ⟨gg, 0, none⟩) (k * 4 + 4) cap))
        have HB10 := Lib.hid (HB9.out.setCell (p := ⟨w1.heap.size, 3, none⟩) (Nat.le_of_lt hw1) (.slice (some ⟨gg, 0, none⟩) (k * 4 + 4) cap))
        have HO10 := Lib.hid (own_kept HO9.out (grown_set _ w1.heap.size 3 (.slice (some ⟨gg, 0, none⟩) (k * 4 + 4) cap)) (Nat.lt_succ_self _))
        have HE : Hid (Lib.byteCells (greyT 4 (v.take k)) ++ [.int .u8 (b.toNat : Int), .int .u8 (b.toNat : Int), .int .u8 (b.toNat : Int), .int .u8 255] = Lib.byteCells (greyT 4 (v.take (k + 1)))) := Lib.hid (by
          rw [HT.out]
          unfold greyC
          rw [HUB.out]
          simp [Lib.byteCells])
        have hz10 : w1.heap.size < (w9.setCell ⟨w1.heap.size, 3, none⟩ (.slice (some ⟨gg, 0, none⟩) (k * 4 + 4) cap)).heap.size := by simpa using hz9
        clear HM8 HS8 HB8 HO8 HN8 HNW m3 f3 m9 f9 HM9 HS9 HB9 HO9 hz9 hza hz8 hsl
        go_wp2_with fail
        go_roundw
        case rel => exact ⟨k + 1, some ⟨gg, 0, none⟩, cap, by omega, by go_num, by rw [Nat.succ_mul]; exact HM10, by rw [Nat.succ_mul, ← HE.out]; exact HO10.out, HS10, HB10, hz10⟩
        case measure => simp only [intOf]; omega
      · have t1 : decide ((k : Int) < (n : Int)) = false := decide_eq_false (by omega)
        obtain rfl : k = n := by omega
        have m0 := HM2.out.c 0 _ rfl
        have m1 := HM2.out.c 1 _ rfl
        have m2 := HM2.out.c 2 _ rfl
        have m3 := HM2.out.c 3 _ rfl
        have s0 := HS2.out.c 0 _ rfl
        have s1 := HS2.out.c 1 _ rfl
        have s2 := HS2.out.c 2 _ rfl
        have s3 := HS2.out.c 3 _ rfl
        have f0 := HS2.out.f 0
        have f1 := HS2.out.f 1
        have f2 := HS2.out.f 2
        have f3 := HS2.out.f 3
        have HR := Lib.hid ((((HS2.out.setAt 0 (by simp [zim]) (.int .i64 (q : Int))).setAt 1 (by simp [zim]) (.int .i64 (hh : Int))).setAt 2 (by simp [zim]) (.int .i64 32)).setAt 3 (by simp [zim]) (.slice A' (k * 4) c'))
        have HB3 := Lib.hid ((((HB2.out.setCell (p := ⟨w.heap.size, 0, none⟩) (Nat.le_refl _) (.int .i64 (q : Int))).setCell (p := ⟨w.heap.size, 1, none⟩) (Nat.le_refl _) (.int .i64 (hh : Int))).setCell (p := ⟨w.heap.size, 2, none⟩) (Nat.le_refl _) (.int .i64 32)).setCell (p := ⟨w.heap.size, 3, none⟩) (Nat.le_refl _) (.slice A' (k * 4) c'))
        have HO := Lib.hid (own_kept (own_kept (own_kept (own_kept hown (grown_set _ w.heap.size 0 (.int .i64 (q : Int))) (by omega)) (grown_set _ w.heap.size 1 (.int .i64 (hh : Int))) (by omega)) (grown_set _ w.heap.size 2 (.int .i64 32)) (by omega)) (grown_set _ w.heap.size 3 (.slice A' (k * 4) c')) (by omega))
        have HV : Hid (v.take k = v) := Lib.hid (List.take_of_length_le (by rw [hl.out]; exact Nat.le_refl _))
        clear hown HS2 HB2 HM2
        go_wp2_with fail
        generalize World.setCell _ ⟨w.heap.size, 3, none⟩ (.slice A' (k * 4) c') = V at *
        clear s0 s1 s2 s3 f0 f1 f2 f3 m0 m1 m2 m3
        have e0 := HR.out.c 0 _ rfl
        have e1 := HR.out.c 1 _ rfl
        have e2 := HR.out.c 2 _ rfl
        have e3 := HR.out.c 3 _ rfl
        have HO' := HO.out
        rw [HV.out] at HO'
        have hcp := own_cap HO'
        exact bodyPost_ret (v := .tuple #[.agg #[.int .i64 (q : Int), .int .i64 (hh : Int), .int .i64 32, .slice A' (k * 4) c'], .int .i64 0]) (by simp [results, Try.results14, go_sem, e0, e1, e2, e3]) rfl (FIN.out A' (k * 4) c' _ HB3.out ⟨Rd.of_own HO', by have := hcp.1; have := hcp.2; omega⟩ hcp.1 hcp.2)
theorem grey_any (A : Option Addr) (n c : Nat) (v : List Int) (ww b : Int) (w : World) (hI : Ints w w.heap.size A n v) (hn : n ≤ 1000) (bw : i64b ww) :
    Calls Try.prog 14 #[.int .i64 ww, .slice A n c, .int .i64 b] w (GreyRes ww v b w) := by
  cases h : greyOk ww v b with
  | false => exact grey_no A n c v ww b w hI hn bw h
  | true =>
    obtain ⟨g1, _, _, g4⟩ := greyOk_iff.1 h
    obtain ⟨q, rfl⟩ : ∃ q : Nat, ww = q := ⟨ww.toNat, by have := (levelOk_iff.1 g1).1; omega⟩
    rcases g4 with rfl | rfl
    · exact grey_yes A n c q 3 v 24 w hI hn (.inl ⟨rfl, rfl⟩) h
    · exact grey_yes A n c q 4 v 32 w hI hn (.inr ⟨rfl, rfl⟩) h
end Go.Proofs.Ytfkkppagbhllgaa

/-
  THE WALKS OF limewashref29's Same and Big.
-/
set_option linter.unusedVariables false
set_option linter.unusedSimpArgs false
set_option maxRecDepth 100000
namespace Go.Proofs.Ytfkkppagbhllgaa
open Go.RowKit

theorem Byts.whole {w : World} {B n : Nat} {A : Option Addr} {l : List UInt8} (h : Byts w B A n l) (cap : Nat) :
    (convert 22 9 (.slice A n cap)).run Try.prog w = .ok (.string ⟨l.toArray⟩) w := by
  cases A with
  | none =>
    have h0 : n = 0 := by
      rcases Nat.eq_zero_or_pos n with h0 | h0
      · exact h0
      · obtain ⟨ad, e, _⟩ := h.rd.2 h0; cases e
    have hl := h.length
    have : l = [] := List.eq_nil_of_length_eq_zero (by omega)
    subst this
    exact run_convert_bytes_nil (P := Try.prog) w 22 5 Try.underlying22 Try.underlying5 n cap 9 Try.underlying9
  | some ad =>
    have hl := h.length
    have := run_convert_bytes_back (P := Try.prog) w 22 9 5 ad cap l Try.underlying22 Try.underlying5 Try.underlying9 fun j hj => by
      obtain ⟨ad', e, _, hc⟩ := h.rd.2 (by omega)
      cases e
      exact hc j _ (by simp [Lib.byteCells, List.getElem?_eq_getElem hj])
    rwa [hl] at this

theorem big_any (p q b : Int) (A : Option Addr) (n c : Nat) (w : World) :
    Calls Try.prog 9 #[imV p q b A n c] w fun e w' => e = .returned (.bool (decide (600 < (n : Int)))) ∧ Below w.heap.size w w' := by
  have hb : Below w.heap.size w (w.alloc (.cells #[.int .i64 p, .int .i64 q, .int .i64 b, .slice A n c] 24)) := (Below.refl _ _).alloc (Nat.le_refl _) _
  unfold imV
  go_enter Try.func9, Try.ntmps9
  go_wp2_with fail
  go_ret
  exact ⟨rfl, hb⟩

set_option maxHeartbeats 800000 in
theorem same_im (B : Nat) (p q b : Int) (A : Option Addr) (n c : Nat) (d : List UInt8) (p' q' b' : Int) (A' : Option Addr) (n' c' : Nat) (d' : List UInt8) (w : World)
    (h : Byts w B A n d) (h' : Byts w B A' n' d') (hB : B ≤ w.heap.size) :
    Calls Try.prog 21 #[imV p q b A n c, imV p' q' b' A' n' c'] w fun e w' => e = .returned (.bool (p == p' && (q == q' && (b == b' && d == d')))) ∧ Below w.heap.size w w' := by
  have hb : Below w.heap.size w ((w.alloc (.cells #[.int .i64 p, .int .i64 q, .int .i64 b, .slice A n c] 24)).alloc (.cells #[.int .i64 p', .int .i64 q', .int .i64 b', .slice A' n' c'] 24)) := ((Below.refl _ _).alloc (Nat.le_refl _) _).alloc (by simp) _
  have t1 := (h.below hb hB).whole c
  have t2 := (h'.below hb hB).whole c'
  have HB := Lib.hid hb
  unfold imV
  clear hb h h'
  cases h1 : (p == p') with
  | false =>
    clear t1 t2
    go_enter Try.func21, Try.ntmps21
    go_wp2_with fail
    go_ret
    exact ⟨rfl, HB.out⟩
  | true =>
    cases h2 : (q == q') with
    | false =>
      clear t1 t2
      go_enter Try.func21, Try.ntmps21
      go_wp2_with fail
      go_ret
      exact ⟨rfl, HB.out⟩
    | true =>
      cases h3 : (b == b') with
      | false =>
        clear t1 t2
        go_enter Try.func21, Try.ntmps21
        go_wp2_with fail
        go_ret
        exact ⟨rfl, HB.out⟩
      | true =>
        go_enter Try.func21, Try.ntmps21
        go_wp2_with fail
        go_ret
        exact ⟨by simp, HB.out⟩
end Go.Proofs.Ytfkkppagbhllgaa

/-
  GET's MEMORY in its loop.
-/
set_option linter.unusedVariables false
set_option linter.unusedSimpArgs false
set_option maxRecDepth 100000
namespace Go.Proofs.Ytfkkppagbhllgaa
open Go.RowKit

theorem getD_take (s : List UInt8) (i : Nat) (h : i < 18) : (s.take 18).getD i 0 = s.getD i 0 := by
  rw [List.getD_eq_getElem?_getD, List.getD_eq_getElem?_getD, List.getElem?_take, if_pos h]
theorem u8_eq (c : UInt8) (k : Nat) (hk : k < 256) : (((c.toNat : Nat) : Int) == (k : Int)) = (c == UInt8.ofNat k) := by
  rw [Bool.eq_iff_iff]
  simp only [beq_iff_eq]
  constructor
  · intro h
    apply UInt8.toNat.inj
    rw [u8_of k hk]; omega
  · rintro rfl
    rw [u8_of k hk]
/-! ### Get's memory in its loop -/
theorem slot_grown {W W' : World} {g r : Nat} {cs : List Value} (h : SlotN W g cs) (hg : W.grownBy W' (some r)) (hne : g ≠ r) (hlt : g < W.heap.size) : SlotN W' g cs := by
  have k := hg.block g hlt (fun e => hne (by injection e))
  refine ⟨fun j u hj => ?_, fun j => ?_⟩
  · have := h.c j u hj
    simp only [World.cell?, k] at this ⊢
    exact this
  · have := h.f j
    simp only [World.frozen?, k] at this ⊢
    exact this
theorem GetAt.grownBy {w W W' : World} {xs : List Value} {e : Int} {rest : List UInt8} {r : Nat} (h : GetAt w W xs e rest) (hg : W.grownBy W' (some r)) (hr : w.heap.size + 3 ≤ r) : GetAt w W' xs e rest := by
  have := h.size
  exact ⟨slot_grown h.m hg (by omega) (by omega), slot_grown h.e hg (by omega) (by omega), slot_grown h.r hg (by omega) (by omega), h.below.grown hg h.below.size (fun k e => by injection e with e; omega), Nat.le_trans h.size hg.size⟩
theorem GetAt.read {w W W' : World} {xs : List Value} {e : Int} {rest rest' : List UInt8} (h : GetAt w W xs e rest) (hg : W.grownBy W' (some (w.heap.size + 1 + 1))) (hs : SlotN W' (w.heap.size + 1 + 1) [strV rest']) : GetAt w W' xs e rest' := by
  have := h.size
  exact ⟨slot_grown h.m hg (by omega) (by omega), slot_grown h.e hg (by omega) (by omega), hs, h.below.grown hg h.below.size (fun k e => by injection e with e; omega), Nat.le_trans h.size hg.size⟩
structure GtAt (w W : World) (D g co base : Nat) (p q z : Nat) (tp : Bool) (n : Nat) (X rest : List UInt8) : Prop where
  a : GetAt w W [.int .i64 (p : Int), .int .i64 (q : Int), .int .i64 ((8 * z : Nat) : Int), .slice (some ⟨D, 0, none⟩) n n] 0 rest
  d : W.heap[D]? = some (.cells (Lib.byteCells X).toArray 5 (0, 0))
  r : W.ownsRow base 3 1 (.slice (some ⟨g, 0, none⟩) q co) q (cellsI (ordL q tp))
  l1 : w.heap.size + 3 ≤ D
  l2 : D < base
  hg : base ≤ g
section
variable {w W W' : World} {D g co base p q z n : Nat} {tp : Bool} {X rest : List UInt8}
theorem GtAt.grown (h : GtAt w W D g co base p q z tp n X rest) (hb : Below W.heap.size W W') : GtAt w W' D g co base p q z tp n X rest :=
  ⟨h.a.grown hb, by rw [hb.block D (Array.getElem?_eq_some_iff.1 h.d).1]; exact h.d, own_below h.r hb (Nat.le_refl _), h.l1, h.l2, h.hg⟩
theorem GtAt.read {rest' : List UInt8} (h : GtAt w W D g co base p q z tp n X rest) (hg : W.grownBy W' (some (w.heap.size + 1 + 1))) (hs : SlotN W' (w.heap.size + 1 + 1) [strV rest']) : GtAt w W' D g co base p q z tp n X rest' := by
  have := h.l1
  have := h.l2
  have := h.hg
  refine ⟨h.a.read hg hs, ?_, h.r.kept hg (.inr ?_), h.l1, h.l2, h.hg⟩
  · rw [hg.block D (Array.getElem?_eq_some_iff.1 h.d).1 (fun e => by injection e with e; omega)]; exact h.d
  · simp [Value.ownBlock]; omega
theorem GtAt.took (h : GtAt w W D g co base p q z tp n X rest) (rest' : List UInt8) : GtAt w (W.setCell ⟨w.heap.size + 1 + 1, 0, none⟩ (strV rest')) D g co base p q z tp n X rest' := by
  refine h.read (grown_setCell (World.grownBy.refl W _) _) (h.a.r.one _)
theorem GtAt.laid (h : GtAt w W D g co base p q z tp n X rest) (Y : List UInt8) : GtAt w (W.setRow D (Lib.byteCells Y).toArray) D g co base p q z tp n Y rest := by
  have := h.l1
  have := h.l2
  have := h.hg
  have hg : W.grownBy (W.setRow D (Lib.byteCells Y).toArray) (some D) := ⟨rfl, rfl, rfl, by simp [World.setRow], fun k _ hk => setRow_other W D k _ (fun e => hk (by rw [e]))⟩
  refine ⟨h.a.grownBy hg h.l1, setRow_heap W D _ _ _ _ h.d, h.r.kept hg (.inr ?_), h.l1, h.l2, h.hg⟩
  simp [Value.ownBlock]; omega
end
theorem copy_at (W : World) (D o k : Nat) (X T : List UInt8) (ty : TypeId) (hd : W.heap[D]? = some (.cells (Lib.byteCells X).toArray 5 (0, 0))) (h1 : T.length ≤ k) (h2 : o + T.length ≤ X.length) :
    (Builtin.copy_ #[22, 9] ty #[.slice (some ⟨D, o, none⟩) k k, .string ⟨T.toArray⟩]).run Try.prog W = .ok (goInt T.length) (W.setRow D (Lib.byteCells (X.take o ++ T ++ X.drop (o + T.length))).toArray) := by
  have hsz : (⟨T.toArray⟩ : ByteArray).size = T.length := by simp [ByteArray.size]
  have := Lib.run_copy_row_string (P := Try.prog) W 22 9 ty 5 D o k k ⟨T.toArray⟩ (Lib.byteCells X).toArray 5 Try.underlying22 (by kernel_rfl) hd (by rw [hsz]; exact h1) (by rw [hsz]; simp [Lib.byteCells]; exact h2)
  rw [hsz] at this
  rw [this]
  simp [Lib.byteCells]
theorem made_bytes (n : Nat) : madeCells #[.int .u8 0] n = (Lib.byteCells (List.replicate n 0)).toArray := by
  apply Array.ext'
  refine List.ext_getElem? fun j => ?_
  by_cases hj : j < n
  · simp [madeCells, Lib.byteCells, hj, Nat.mod_one]
  · rw [List.getElem?_eq_none (by simp [size_madeCells]; omega), List.getElem?_eq_none (by simp [Lib.byteCells]; omega)]
theorem unpack_left {z : Nat} : ∀ (need : Nat) (s : List UInt8) (o : List UInt8 × List UInt8), unpackT z need s = some o → o.2.length ≤ s.length
  | need, s, o, h => by
    by_cases h0 : need = 0
    · subst h0
      rw [unpackT_zero] at h
      cases h; simp
    · cases s with
      | nil => rw [unpackT_nil h0] at h; cases h
      | cons c t =>
        rw [unpackT_cons _ _ _ _ h0] at h
        split at h
        · cases h
        · split at h
          · split at h
            · cases h
            · cases hu : unpackT z (need - (c.toNat % 128 + 1)) (t.drop z) with
              | none => rw [hu] at h; cases h
              | some q =>
                rw [hu] at h
                simp only [Option.map_some, Option.some.injEq] at h
                subst h
                have ih := unpack_left _ _ _ hu
                simp only [List.length_drop, List.length_cons] at *
                omega
          · split at h
            · cases h
            · cases hu : unpackT z (need - (c.toNat % 128 + 1)) (t.drop ((c.toNat % 128 + 1) * z)) with
              | none => rw [hu] at h; cases h
              | some q =>
                rw [hu] at h
                simp only [Option.map_some, Option.some.injEq] at h
                subst h
                have ih := unpack_left _ _ _ hu
                simp only [List.length_drop, List.length_cons] at *
                omega
termination_by need => need
theorem byts_at {W : World} {D n : Nat} {X : List UInt8} (hd : W.heap[D]? = some (.cells (Lib.byteCells X).toArray 5 (0, 0))) (hl : X.length = n) (hn : n ≤ 9223372036854775807) : Byts W W.heap.size (some ⟨D, 0, none⟩) n X := by
  refine ⟨⟨by rw [bytes_len]; omega, fun _ => ⟨_, rfl, (Array.getElem?_eq_some_iff.1 hd).1, fun j u hj => ?_⟩⟩, hn⟩
  rw [addr_lit]
  simp only [World.cell?, hd]
  simpa using hj
/-- what Get's ending needs -/
structure GetE (w W : World) (xs : List Value) (e : Int) : Prop where
  m : SlotN W w.heap.size xs
  e : SlotN W (w.heap.size + 1) [.int .i64 e]
  below : Below w.heap.size w W
section
variable {w W W' : World} {xs : List Value} {e : Int} {rest : List UInt8}
theorem GetAt.weak (h : GetAt w W xs e rest) : GetE w W xs e := ⟨h.m, h.e, h.below⟩
theorem GetAt.threw (h : GetAt w W xs e rest) (hg : W.grownBy W' (some (w.heap.size + 1 + 1))) : GetE w W' xs e := by
  have := h.size
  exact ⟨slot_grown h.m hg (by omega) (by omega), slot_grown h.e hg (by omega) (by omega), h.below.grown hg h.below.size (fun k e => by injection e with e; omega)⟩
theorem GetE.setM (h : GetE w W xs e) (k : Nat) (hk : k < xs.length) (v : Value) : GetE w (W.setCell ⟨w.heap.size, k, none⟩ v) (xs.set k v) e :=
  ⟨h.m.setAt k hk v, h.e.otherJ _ _ (by omega) _, h.below.setCell (p := ⟨w.heap.size, k, none⟩) (Nat.le_refl _) _⟩
theorem GetE.setE (h : GetE w W xs e) (e' : Int) : GetE w (W.setCell ⟨w.heap.size + 1, 0, none⟩ (.int .i64 e')) xs e' :=
  ⟨h.m.other _ (by omega) _, h.e.one _, h.below.setCell (p := ⟨w.heap.size + 1, 0, none⟩) (by simp) _⟩
end
theorem GtAt.start {w W W' : World} {D g co p q z n : Nat} {tp : Bool} {X rest : List UInt8} (h : GetAt w W [.int .i64 (p : Int), .int .i64 (q : Int), .int .i64 ((8 * z : Nat) : Int), .slice (some ⟨D, 0, none⟩) n n] 0 rest)
    (hd : W.heap[D]? = some (.cells (Lib.byteCells X).toArray 5 (0, 0))) (hl : w.heap.size + 3 ≤ D) (hb : Below W.heap.size W W') (hr : W'.ownsRow W.heap.size 3 1 (.slice (some ⟨g, 0, none⟩) q co) q (cellsI (ordL q tp))) (hg : W.heap.size ≤ g) : GtAt w W' D g co W.heap.size p q z tp n X rest :=
  ⟨h.grown hb, by rw [hb.block D (Array.getElem?_eq_some_iff.1 hd).1]; exact hd, hr, hl, (Array.getElem?_eq_some_iff.1 hd).1, hg⟩
end Go.Proofs.Ytfkkppagbhllgaa

/-
  THE STEPS OF tga.Get on texts long enough for a head.
-/
set_option linter.unusedVariables false
set_option linter.unusedSimpArgs false
set_option maxRecDepth 100000
namespace Go.Proofs.Ytfkkppagbhllgaa
open Go.RowKit

theorem wp_calmB {P : Program} {id : Nat} {c : Code} {K : Act → World → Prop} {Q : Exit → Act → World → Prop} {a : Act} {w : World} (h : c.wp P (Exit.then K fun _ _ _ => False) a w) : c.wp P (Exit.inBlock id (Exit.then K Q)) a w :=
  wp_mono h fun e a w q => by cases e <;> first | exact q | exact q.elim
theorem data_kept {W : World} {D g : Nat} {X : Option Obj} (h : W.heap[D]? = X) (hg : g < D) (j : Nat) (v : Value) : (W.setCell ⟨g, j, none⟩ v).heap[D]? = X := by
  rw [Below.heap_setCell _ _ _ _ (fun e => by simp only at e; omega)]; exact h
set_option maxHeartbeats 12800000 in
theorem get_long (s : List UInt8) (w : World) (hl : s.length ≤ 1000000) (h18 : 18 ≤ s.length) : Calls Try.prog 25 #[.string ⟨s.toArray⟩] w (GetRes s w) := by
  have FIN2 : Hid (∀ w', getT s = none → Below w.heap.size w w' → GetRes s w (.returned (.tuple #[zimV, .int .i64 6])) w') := Lib.hid fun w' h1 h2 => ⟨h2, .inl ⟨h1, rfl⟩⟩
  have FIN1 : Hid (∀ m A n c w', getT s = some m → Byts w' w'.heap.size A n m.d → n ≤ c → c ≤ 9223372036854775807 → Below w.heap.size w w' → GetRes s w (.returned (.tuple #[imV m.w m.h ((8 * m.z : Nat) : Int) A n c, .int .i64 0])) w') := Lib.hid fun m A n c w' h1 h2 h3 h4 h5 => ⟨h5, .inr ⟨m, A, n, c, h1, rfl, h2, h3, h4⟩⟩
  generalize hQ : GetRes s w = Qp at FIN1 FIN2 ⊢
  clear hQ
  have hmf := makes_func
  obtain ⟨h, hh⟩ : ∃ h, h = s.take 18 := ⟨_, rfl⟩
  have hhl : h.length = 18 := by rw [hh, List.length_take]; omega
  have hG := GetAt.new w s 24 29 71
  have KT := Lib.hid (take_ok (w.heap.size + 1 + 1) s 18 18 _ hG.r rfl h18 hl)
  rw [← hh] at KT
  have I12 := fun W => idx_str h 12 12 (by omega) rfl W
  have I13 := fun W => idx_str h 13 13 (by omega) rfl W
  have I14 := fun W => idx_str h 14 14 (by omega) rfl W
  have I15 := fun W => idx_str h 15 15 (by omega) rfl W
  have I16 := fun W => idx_str h 16 16 (by omega) rfl W
  have I2 := fun W => idx_str h 2 2 (by omega) rfl W
  have I17 := fun W => idx_str h 17 17 (by omega) rfl W
  have hG2 := hG.took (s.drop 18)
  unfold strV at KT hG2
  have HG2 := Lib.hid hG2
  have HHS := Lib.hid hh
  clear hG hG2 hh hhl
  go_enter_defers Try.func25, Try.ntmps25
  go_wp2_with fail
  refine KT.out.mono ?_
  clear KT
  rintro e w2 ⟨rfl, rfl⟩
  generalize ((((w.alloc (.cells #[.int .i64 0, .int .i64 0, .int .i64 0, .slice none 0 0] 24)).alloc (.cells #[.int .i64 0] 29)).alloc (.cells #[.string ⟨s.toArray⟩] 71))).setCell ⟨w.heap.size + 1 + 1, 0, none⟩ (.string ⟨(s.drop 18).toArray⟩) = W2 at *
  obtain ⟨x12, h12⟩ : ∃ x, x = (h.getD 12 0).toNat := ⟨_, rfl⟩
  obtain ⟨x13, h13⟩ : ∃ x, x = (h.getD 13 0).toNat := ⟨_, rfl⟩
  obtain ⟨x14, h14⟩ : ∃ x, x = (h.getD 14 0).toNat := ⟨_, rfl⟩
  obtain ⟨x15, h15⟩ : ∃ x, x = (h.getD 15 0).toNat := ⟨_, rfl⟩
  obtain ⟨x16, h16⟩ : ∃ x, x = (h.getD 16 0).toNat := ⟨_, rfl⟩
  have b12 : x12 ≤ 255 := by have := (h.getD 12 0).toNat_lt; omega
  have b13 : x13 ≤ 255 := by have := (h.getD 13 0).toNat_lt; omega
  have b14 : x14 ≤ 255 := by have := (h.getD 14 0).toNat_lt; omega
  have b15 : x15 ≤ 255 := by have := (h.getD 15 0).toNat_lt; omega
  have b16 : x16 ≤ 255 := by have := (h.getD 16 0).toNat_lt; omega
  have o1 := or_shl x12 x13 b12 b13
  have o2 := or_shl x14 x15 b14 b15
  obtain ⟨p, hp⟩ : ∃ p, p = x12 + 256 * x13 := ⟨_, rfl⟩
  obtain ⟨q, hq⟩ : ∃ q, q = x14 + 256 * x15 := ⟨_, rfl⟩
  rw [show (x12 : Int) + 256 * (x13 : Int) = (p : Int) by omega] at o1
  rw [show (x14 : Int) + 256 * (x15 : Int) = (q : Int) by omega] at o2
  obtain ⟨pk, hpk⟩ : ∃ b, b = isPacked s := ⟨_, rfl⟩
  obtain ⟨tp, htp⟩ : ∃ b, b = isTop s := ⟨_, rfl⟩
  have t5 : ((((h.getD 2 0).toNat : Nat) : Int) == 10) = pk := by
    have := u8_eq (h.getD 2 0) 10 (by decide)
    rw [hpk]; unfold isPacked
    rw [← getD_take s 2 (by decide), ← HHS.out]
    exact this
  have t6 : decide (32 ≤ (((h.getD 17 0).toNat : Nat) : Int)) = tp := by
    rw [htp]; unfold isTop
    rw [← getD_take s 17 (by decide), ← HHS.out, decide_eq_decide]; omega
  have HB : Hid (b2 s 12 = p ∧ b2 s 14 = q ∧ bits s = x16) := Lib.hid (by
    unfold b2 bits
    rw [← getD_take s 12 (by decide), ← getD_take s 13 (by decide), ← getD_take s 14 (by decide), ← getD_take s 15 (by decide), ← getD_take s 16 (by decide), ← HHS.out]
    exact ⟨by rw [hp, h12, h13], by rw [hq, h14, h15], h16.symm⟩)
  rw [← h12] at I12
  rw [← h13] at I13
  rw [← h14] at I14
  rw [← h15] at I15
  rw [← h16] at I16
  have hp9 : p ≤ 65535 := by omega
  have hq9 : q ≤ 65535 := by omega
  have HPK := Lib.hid hpk
  have HTP := Lib.hid htp
  clear h12 h13 h14 h15 h16 hp hq hpk htp
  have hb2 : (h.getD 2 0).toNat ≤ 255 := by have := (h.getD 2 0).toNat_lt; omega
  have hb17 : (h.getD 17 0).toNat ≤ 255 := by have := (h.getD 17 0).toNat_lt; omega
  generalize (h.getD 2 0).toNat = x2 at *
  generalize (h.getD 17 0).toNat = x17 at *
  have d0 := HG2.out.m.c 0 _ rfl
  have d1 := HG2.out.m.c 1 _ rfl
  have d2 := HG2.out.m.c 2 _ rfl
  have d3 := HG2.out.m.c 3 _ rfl
  have f0 := HG2.out.m.f 0
  have f1 := HG2.out.m.f 1
  have f2 := HG2.out.m.f 2
  have f3 := HG2.out.m.f 3
  go_wp2_with fail
  refine wp_calm ?_
  go_region
  have HG3 := Lib.hid ((((((((HG2.out.setM 0 (by simp [zim]) (.int .i64 0)).setM 1 (by simp [zim]) (.int .i64 0)).setM 2 (by simp [zim]) (.int .i64 0)).setM 3 (by simp [zim]) (.slice none 0 0)).setM 0 (by simp [zim]) (.int .i64 (p : Int))).setM 1 (by simp [zim]) (.int .i64 (q : Int))).setM 2 (by simp [zim]) (.int .i64 (x16 : Int))).drew)
  replace HG3 : Hid (GetAt w _ [.int .i64 (p : Int), .int .i64 (q : Int), .int .i64 (x16 : Int), .slice none 0 0] 0 (s.drop 18)) := HG3
  clear HG2 d0 d1 d2 d3 f0 f1 f2 f3 I12 I13 I14 I15 I16 o1 o2
  generalize ((((((((W2.setCell ⟨w.heap.size, 0, none⟩ (.int .i64 0)).setCell ⟨w.heap.size, 1, none⟩ (.int .i64 0)).setCell ⟨w.heap.size, 2, none⟩ (.int .i64 0)).setCell ⟨w.heap.size, 3, none⟩ (.slice none 0 0)).setCell ⟨w.heap.size, 0, none⟩ (.int .i64 (p : Int))).setCell ⟨w.heap.size, 1, none⟩ (.int .i64 (q : Int))).setCell ⟨w.heap.size, 2, none⟩ (.int .i64 (x16 : Int))).drew) = W3 at *
  as_aux_lemma =>
  go_wp2_with fail
  refine wp_calm ?_
  go_region
  have HG4 := Lib.hid HG3.out.drew
  generalize W3.drew = W4 at *
  clear HG3 t5 t6 I2 I17 hb2 hb17
  have KF := Lib.hid (form_any p q x16 none 0 0 W4)
  have d0 := HG4.out.m.c 0 _ rfl
  have d1 := HG4.out.m.c 1 _ rfl
  have d2 := HG4.out.m.c 2 _ rfl
  have d3 := HG4.out.m.c 3 _ rfl
  unfold imV at KF
  as_aux_lemma =>
  cases hf : formT p q x16 with
  | false =>
    have HN : Hid (getT s = none) := Lib.hid (by
      unfold getT headOk
      rw [HB.out.1, HB.out.2.1, HB.out.2.2, hf, if_neg (by omega)]; simp)
    have KM := Lib.hid must_bad
    unfold Thrown at KM
    rw [hf] at KF
    clear hf
    as_aux_lemma =>
    go_wp2_with fail
    refine KF.out.mono ?_
    clear KF
    rintro e w5 ⟨rfl, hb5⟩
    have HGT := Lib.hid (HG4.out.grown hb5)
    have HGE := Lib.hid HGT.out.weak
    clear hb5 d0 d1 d2 d3 HG4
    as_aux_lemma =>
    go_wp2_with fail
    refine (KM.out _).mono ?_
    clear KM
    rintro e w6 ⟨rfl, rfl⟩
    as_aux_lemma =>
    go_wp2_with fail
    as_aux_lemma =>
    have HE1 := Lib.hid (HGE.out.setE 6)
    have HE2 := Lib.hid ((((HE1.out.setM 0 (by simp [zim]) (.int .i64 0)).setM 1 (by simp [zim]) (.int .i64 0)).setM 2 (by simp [zim]) (.int .i64 0)).setM 3 (by simp [zim]) (.slice none 0 0))
    as_aux_lemma =>
    refine leaves_cons (f := 42) (args := #[.pointer (some ⟨w.heap.size + 1, 0, none⟩), .func (.func 46) #[] #[.pointer (some ⟨w.heap.size, 0, none⟩)]]) (by simp) (by simp [go_sem]) ?_
    refine (caught_g (w.heap.size + 1) w.heap.size 6 [] _ _ (.int .i64 0) (HGE.out.e.c 0 _ rfl) (HGE.out.e.f 0) (clearG w.heap.size _ _ HE1.out.m rfl)).mono ?_
    rintro e u' w'' ⟨rfl, rfl, rfl⟩
    have HF := HE2.out
    clear HE1 HE2 HGE
    generalize World.setCell _ ⟨w.heap.size, 3, none⟩ (.slice none 0 0) = V at *
    have e0 := HF.m.c 0 _ rfl
    have e1 := HF.m.c 1 _ rfl
    have e2 := HF.m.c 2 _ rfl
    have e3 := HF.m.c 3 _ rfl
    have e4 := HF.e.c 0 _ rfl
    as_aux_lemma =>
    refine ⟨.tuple #[zimV, .int .i64 6], ?_, FIN2.out _ HN.out HF.below⟩
    simp [results, Try.results25, go_sem, e0, e1, e2, e3, e4, zimV]
  | true =>
    rw [hf] at KF
    have hf2 := hf
    unfold formT at hf2
    rw [decide_eq_true_iff] at hf2
    obtain ⟨g1, g2, g3, g4, g5⟩ := hf2
    have hz9 : x16 / 8 = 3 ∨ x16 / 8 = 4 := by omega
    obtain ⟨z, hz, hzx⟩ : ∃ z, (z = 3 ∨ z = 4) ∧ x16 = 8 * z := ⟨x16 / 8, hz9, by omega⟩
    have hp1 : 1 ≤ p := by omega
    have hp2 : p ≤ 256 := by omega
    have hq1 : 1 ≤ q := by omega
    have hq2 : q ≤ 256 := by omega
    have KH := Lib.hid (fun W => head_any p q z none 0 0 pk tp W hp2 hq2 hz)
    rw [← hzx] at KH
    obtain ⟨ok, hok⟩ : ∃ ok, ok = (h == headT p q z pk tp) := ⟨_, rfl⟩
    have HHO : Hid (headOk s = ok) := Lib.hid (by
      unfold headOk
      rw [HB.out.1, HB.out.2.1, HB.out.2.2, hf, ← HHS.out, ← HPK.out, ← HTP.out, hok, hzx, Nat.mul_div_cancel_left _ (by omega : 0 < 8)]
      simp)
    have HOK := Lib.hid hok
    have HZX := Lib.hid hzx
    unfold SR imV at KH
    clear hf g1 g2 g3 g4 g5 hz9 hok hzx
    as_aux_lemma =>
    go_wp2_with fail
    refine KF.out.mono ?_
    clear KF
    rintro e w5 ⟨rfl, hb5⟩
    have HG5 := Lib.hid (HG4.out.grown hb5)
    clear hb5 d0 d1 d2 d3 HG4
    have d0 := HG5.out.m.c 0 _ rfl
    have d1 := HG5.out.m.c 1 _ rfl
    have d2 := HG5.out.m.c 2 _ rfl
    have d3 := HG5.out.m.c 3 _ rfl
    as_aux_lemma =>
    go_wp2_with fail
    refine (KH.out _).mono ?_
    clear KH
    rintro e w6 ⟨rfl, hb6⟩
    have HG6 := Lib.hid (HG5.out.grown hb6)
    clear hb6 d0 d1 d2 d3 HG5
    cases ok with
    | false =>
      have hok2 : (h == headT p q z pk tp) = false := HOK.out.symm
      have HN : Hid (getT s = none) := Lib.hid (by
        unfold getT
        rw [HHO.out, if_neg (by omega)]; simp)
      have KM := Lib.hid must_bad
      unfold Thrown at KM
      have HGE := Lib.hid HG6.out.weak
      clear HG6
      as_aux_lemma =>
      go_wp2_with fail
      refine (KM.out _).mono ?_
      clear KM
      rintro e w7 ⟨rfl, rfl⟩
      as_aux_lemma =>
      go_wp2_with fail
      as_aux_lemma =>
      have HE1 := Lib.hid (HGE.out.setE 6)
      have HE2 := Lib.hid ((((HE1.out.setM 0 (by simp [zim]) (.int .i64 0)).setM 1 (by simp [zim]) (.int .i64 0)).setM 2 (by simp [zim]) (.int .i64 0)).setM 3 (by simp [zim]) (.slice none 0 0))
      as_aux_lemma =>
      refine leaves_cons (f := 42) (args := #[.pointer (some ⟨w.heap.size + 1, 0, none⟩), .func (.func 46) #[] #[.pointer (some ⟨w.heap.size, 0, none⟩)]]) (by simp) (by simp [go_sem]) ?_
      refine (caught_g (w.heap.size + 1) w.heap.size 6 [] _ _ (.int .i64 0) (HGE.out.e.c 0 _ rfl) (HGE.out.e.f 0) (clearG w.heap.size _ _ HE1.out.m rfl)).mono ?_
      rintro e u' w'' ⟨rfl, rfl, rfl⟩
      have HF := HE2.out
      clear HE1 HE2 HGE
      generalize World.setCell _ ⟨w.heap.size, 3, none⟩ (.slice none 0 0) = V at *
      have e0 := HF.m.c 0 _ rfl
      have e1 := HF.m.c 1 _ rfl
      have e2 := HF.m.c 2 _ rfl
      have e3 := HF.m.c 3 _ rfl
      have e4 := HF.e.c 0 _ rfl
      as_aux_lemma =>
      refine ⟨.tuple #[zimV, .int .i64 6], ?_, FIN2.out _ HN.out HF.below⟩
      simp [results, Try.results25, go_sem, e0, e1, e2, e3, e4, zimV]
    | true =>
      have hok2 : (h == headT p q z pk tp) = true := HOK.out.symm
      have HSPEC : Hid (getT s = match rowsT pk z p q (s.drop 18) with | none => none | some o => if o.2 = footT then some ⟨p, q, z, dataT z tp o.1⟩ else none) := Lib.hid (by
        unfold getT
        rw [HHO.out, if_neg (by omega), if_pos rfl, HB.out.1, HB.out.2.1, HB.out.2.2, HZX.out, Nat.mul_div_cancel_left _ (by omega : 0 < 8), ← HPK.out, ← HTP.out]
        cases rowsT pk z p q (s.drop 18) <;> rfl)
      have KM := Lib.hid must_ok
      as_aux_lemma =>
      go_wp2_with fail
      refine (KM.out _).mono ?_
      clear KM
      rintro e w7 ⟨rfl, rfl⟩
      have td : ((x16 : Nat) : Int).tdiv 8 = (z : Int) := by rw [Int.tdiv_eq_ediv_of_nonneg (by omega)]; have := HZX.out; omega
      obtain ⟨X, hX⟩ : ∃ X, X = p * q := ⟨_, rfl⟩
      obtain ⟨n, hn⟩ : ∃ n, n = p * q * z := ⟨_, rfl⟩
      have em : (p : Int) * (q : Int) = (X : Int) := by rw [hX]; simp
      have em2 : (X : Int) * (z : Int) = (n : Int) := by rw [hX, hn]; simp
      have hXb : X ≤ 65536 := by rw [hX]; exact Nat.mul_le_mul hp2 hq2
      have hnb : n ≤ 262144 := by rw [hn, ← hX]; exact Nat.le_trans (Nat.mul_le_mul hXb (show z ≤ 4 by omega)) (by decide)
      have hmk := run_make_row' (P := Try.prog) 22 5 (.int .u8 0) 1 Try.underlying22 size_u8 rfl .i64 .i64 n (by omega) (by omega) w7
      obtain ⟨pz, hpz⟩ : ∃ pz, pz = p * z := ⟨_, rfl⟩
      have HPZ := Lib.hid hpz
      have hpz0 : 0 < pz := by rw [hpz]; exact Nat.mul_pos (by omega) (by omega)
      have hpz2 : pz ≤ 1024 := by rw [hpz]; have := Nat.mul_le_mul hp2 (show z ≤ 4 by omega); omega
      have ezp : (z : Int) * (p : Int) = (pz : Int) := by rw [hpz]; simp [Int.mul_comm]
      have HNQ : Hid (n = q * pz) := Lib.hid (by rw [hn, hpz, Nat.mul_comm p q, Nat.mul_assoc])
      clear hX hn hpz
      have d0 := HG6.out.m.c 0 _ rfl
      have d1 := HG6.out.m.c 1 _ rfl
      have d2 := HG6.out.m.c 2 _ rfl
      have hb8 : Below w7.heap.size w7 (w7.alloc (.cells (madeCells #[.int .u8 0] n) 5)) := (Below.refl _ _).alloc (Nat.le_refl _) _
      have hG7 := HG6.out.grown hb8
      have hd7 : (w7.alloc (.cells (madeCells #[.int .u8 0] n) 5)).heap[w7.heap.size]? = some (.cells (Lib.byteCells (List.replicate n 0)).toArray 5 (0, 0)) := by rw [← made_bytes]; exact heap_alloc_new _ _
      have hl1 : w.heap.size + 3 ≤ w7.heap.size := HG6.out.size
      have e1 := hG7.m.c 1 _ rfl
      have e3 := hG7.m.c 3 _ rfl
      have k3 := hG7.m.f 3
      obtain ⟨D, hD⟩ : ∃ D, D = w7.heap.size := ⟨_, rfl⟩
      rw [← hD] at hmk hd7 hl1
      generalize w7.alloc (.cells (madeCells #[.int .u8 0] n) 5) = W8 at *
      have HG8 : Hid (GetAt w (W8.setCell ⟨w.heap.size, 3, none⟩ (.slice (some ⟨D, 0, none⟩) n n)) [.int .i64 (p : Int), .int .i64 (q : Int), .int .i64 ((8 * z : Nat) : Int), .slice (some ⟨D, 0, none⟩) n n] 0 (s.drop 18)) := Lib.hid (by rw [← HZX.out]; exact hG7.setM 3 (by simp) _)
      have HD8 : Hid ((W8.setCell ⟨w.heap.size, 3, none⟩ (.slice (some ⟨D, 0, none⟩) n n)).heap[D]? = some (.cells (Lib.byteCells (contT z pz q tp [])).toArray 5 (0, 0))) := Lib.hid (by
        rw [cont_zero, ← HNQ.out, Below.heap_setCell _ _ _ _ (fun e => by simp only at e; omega)]; exact hd7)
      have KO := Lib.hid (fun W => order_any q tp W hq1 hq2)
      have HL1 := Lib.hid hl1
      clear hG7 hd7 hl1 hb8 hD HG6
      as_aux_lemma =>
      go_wp2_with fail
      generalize W8.setCell ⟨w.heap.size, 3, none⟩ (.slice (some ⟨D, 0, none⟩) n n) = W9 at *
      refine (KO.out _).mono ?_
      clear KO
      rintro e V4 ⟨Ao, co, rfl, hro, hb4⟩
      obtain ⟨g, rfl, hg1, hg2, hg3, _⟩ := own_cells hro (by omega)
      have HGT0 := Lib.hid (GtAt.start HG8.out HD8.out HL1.out hb4 hro hg1)
      clear hro hb4 hg1 hg2 HG8 HD8 d0 d1 d2 e1 e3 k3 hmk td em em2
      generalize W9.heap.size = base at *
      as_aux_lemma =>
      go_wp2_with fail
      go_loopw [74] (fun i wr => ∃ (k : Nat) (rs : List (List UInt8)) (rest : List UInt8), k ≤ q ∧ i = .int .i64 (k : Int) ∧ rs.length = k ∧ Hid (GtAt w wr D g co base p q z tp n (contT z pz q tp rs) rest) ∧ Hid (RdSt pk z p q (s.drop 18) rs rest) ∧ rest.length ≤ 1000000) (fun i _ => q - (intOf i).toNat)
      case atStart => exact ⟨0, [], s.drop 18, by omega, rfl, rfl, HGT0, Lib.hid (RdSt.start _ _ _ _ _), by rw [List.length_drop]; omega⟩
      case round =>
        clear HGT0
        obtain ⟨k, rs, rest, hk, rfl, hrk, HGT, HRD, hrl⟩ := hrel
        by_cases hlt : k < q
        · have t0 : decide ((k : Int) < (q : Int)) = true := decide_eq_true (by omega)
          have k0 : (0 : Int) ≤ (k : Int) := by omega
          have k1 : (k : Int) < (q : Int) := by omega
          obtain ⟨y, hy⟩ : ∃ y, y = ordT q tp k := ⟨_, rfl⟩
          have hyq : y < q := by rw [hy]; exact ordT_lt tp hlt
          have a0 : (⟨g, 0, none⟩ : Addr).add k = ⟨g, k, none⟩ := addr_lit _ _
          have cy : wr.cell? ⟨g, k, none⟩ = some (.int .i64 (y : Int)) := by
            have := HGT.out.r.cells (g := g) rfl k (.int .i64 (y : Int)) (by rw [cellsI_get]; unfold ordL; rw [List.getElem?_map, List.getElem?_range hlt, hy]; rfl)
            rwa [a0] at this
          have d0 := HGT.out.a.m.c 0 _ rfl
          have hsz := HGT.out.a.size
          have HY := Lib.hid hy; clear hy
          cases pk with
          | true =>
            cases ht : takeRow true z p rest with
            | none =>
              have HN : Hid (getT s = none) := Lib.hid (by rw [HSPEC.out, HRD.out.none (by omega) ht])
              have hu : unpackT z p rest = none := by unfold takeRow at ht; simpa using ht
              have HU := Lib.hid hu
              clear ht hu
              have KU := Lib.hid (unpack_any (w.heap.size + 1 + 1) z p rest wr HGT.out.a.r (by omega) hz hrl hp2)
              as_aux_lemma =>
              go_wp2_with fail
              refine KU.out.mono ?_
              clear KU
              rintro e wq ⟨hgr, _, hth⟩
              obtain rfl := hth HU.out
              have HGE := Lib.hid (HGT.out.a.threw hgr)
              clear hgr hth d0 cy hsz
              unfold Thrown
              as_aux_lemma =>
              go_wp2_with fail
              as_aux_lemma =>
              have HE1 := Lib.hid (HGE.out.setE 6)
              have HE2 := Lib.hid ((((HE1.out.setM 0 (by simp [zim]) (.int .i64 0)).setM 1 (by simp [zim]) (.int .i64 0)).setM 2 (by simp [zim]) (.int .i64 0)).setM 3 (by simp [zim]) (.slice none 0 0))
              as_aux_lemma =>
              refine leaves_cons (f := 42) (args := #[.pointer (some ⟨w.heap.size + 1, 0, none⟩), .func (.func 46) #[] #[.pointer (some ⟨w.heap.size, 0, none⟩)]]) (by simp) (by simp [go_sem]) ?_
              refine (caught_g (w.heap.size + 1) w.heap.size 6 [] _ _ (.int .i64 0) (HGE.out.e.c 0 _ rfl) (HGE.out.e.f 0) (clearG w.heap.size _ _ HE1.out.m rfl)).mono ?_
              rintro e u' w'' ⟨rfl, rfl, rfl⟩
              have HF := HE2.out
              clear HE1 HE2 HGE
              generalize World.setCell _ ⟨w.heap.size, 3, none⟩ (.slice none 0 0) = V at *
              have e0 := HF.m.c 0 _ rfl
              have e1 := HF.m.c 1 _ rfl
              have e2 := HF.m.c 2 _ rfl
              have e3 := HF.m.c 3 _ rfl
              have e4 := HF.e.c 0 _ rfl
              as_aux_lemma =>
              refine ⟨.tuple #[zimV, .int .i64 6], ?_, FIN2.out _ HN.out HF.below⟩
              simp [results, Try.results25, go_sem, e0, e1, e2, e3, e4, zimV]
            | some o =>
              have HRD2 := Lib.hid (HRD.out.some (by omega) (by omega) ht)
              have hu : unpackT z p rest = some o := by unfold takeRow at ht; simpa using ht
              have hol : o.1.length = pz := by rw [HPZ.out]; exact takeRow_out (by omega) ht
              have hrl2 : o.2.length ≤ 1000000 := Nat.le_trans (unpack_left _ _ _ hu) hrl
              have HU := Lib.hid hu
              clear ht hu
              have KU := Lib.hid (unpack_any (w.heap.size + 1 + 1) z p rest wr HGT.out.a.r (by omega) hz hrl hp2)
              as_aux_lemma =>
              go_wp2_with fail
              refine KU.out.mono ?_
              clear KU
              rintro e wq ⟨hgr, hok, _⟩
              obtain ⟨rfl, hsl⟩ := hok _ HU.out
              have HGT := Lib.hid (HGT.out.read hgr hsl)
              obtain ⟨t, rest2⟩ := o
              clear hgr hok hsl d0 cy hsz HU
              unfold strV
              have htl : t.length = pz := hol
              have d0 := HGT.out.a.m.c 0 _ rfl
              have d3 := HGT.out.a.m.c 3 _ rfl
              obtain ⟨yp, hyp⟩ : ∃ yp, yp = y * p := ⟨_, rfl⟩
              obtain ⟨i0, hi0⟩ : ∃ i0, i0 = y * pz := ⟨_, rfl⟩
              have hi1 : i0 + pz ≤ n := by rw [hi0, HNQ.out, ← Nat.succ_mul]; exact Nat.mul_le_mul_right _ hyq
              have ey1 : (y : Int) * (p : Int) = (yp : Int) := by rw [hyp]; simp
              have ey2 : (yp : Int) * (z : Int) = (i0 : Int) := by rw [hyp, hi0, HPZ.out]; simp [Int.mul_assoc]
              have hyp9 : yp ≤ 65536 := by rw [hyp]; have := Nat.mul_le_mul (show y ≤ 256 by omega) hp2; omega
              have w1' : IntKind.i64.wrap (yp : Int) = (yp : Int) := by rw [IntKind.wrap_i64]; omega
              have w2' : IntKind.i64.wrap (i0 : Int) = (i0 : Int) := by rw [IntKind.wrap_i64]; omega
              have hXl : (contT z pz q tp rs).length = n := by rw [HNQ.out]; exact cont_len (by rw [HPZ.out]; exact HRD.out.2.1) (by omega)
              have HST : Hid ((contT z pz q tp rs).take i0 ++ turnedT z t ++ (contT z pz q tp rs).drop (i0 + (turnedT z t).length) = contT z pz q tp (rs ++ [t])) := Lib.hid (by
                rw [turnedT_len, htl, hi0, HY.out, ← hrk]
                exact cont_step (by rw [HPZ.out]; exact HRD.out.2.1) (by omega) htl)
              have htt : (turnedT z t).length = pz := by rw [turnedT_len]; exact htl
              have KT := Lib.hid (fun W => turned_any z p t W hz (by omega) (by rw [htl, HPZ.out]) hp1)
              generalize contT z pz q tp rs = X at *
              obtain ⟨Y, hY⟩ : ∃ Y, Y = X.take i0 ++ turnedT z t ++ X.drop (i0 + (turnedT z t).length) := ⟨_, rfl⟩
              rw [← hY] at HST
              have HYY := Lib.hid hY
              clear hY
              clear hyp hi0
              have HTT := Lib.hid htt
              have HXL := Lib.hid hXl
              clear hol htl htt hXl
              have hci : ¬ n = i0 := by omega
              have b0 : (0 : Int) ≤ (i0 : Int) := by omega
              have b1 : (i0 : Int) ≤ (n : Int) := by omega
              have a1 : (⟨D, 0, none⟩ : Addr).add i0 = ⟨D, i0, none⟩ := addr_lit _ _
              have HPX := HGT
              unfold SR at KT
              as_aux_lemma =>
              go_wp2_with fail
              refine wp_calmB ?_
              go_region_held3 (fun w' => w'.cell? ⟨w.heap.size, 3, none⟩ = some (.slice (some ⟨D, 0, none⟩) n n) ∧ w'.cell? ⟨w.heap.size, 0, none⟩ = some (.int .i64 (p : Int)))
                (refine ⟨?_, ?_⟩ <;> (first | with_reducible assumption | exact HPX.out.a.m.c 3 _ rfl | exact HPX.out.a.m.c 0 _ rfl | exact HPY.out.a.m.c 3 _ rfl | exact HPY.out.a.m.c 0 _ rfl))
                (first | (go_at_call 33; refine (KT.out _).mono ?_; clear KT; rintro e wx ⟨rfl, hbx⟩; have HPX := Lib.hid (HPX.out.grown ((Below.refl _ _).drew.trans (hbx.mono (by simp)))); have cp := fun ty => copy_at wx D i0 (n - i0) X (turnedT z t) ty HPX.out.d (by have := HTT.out; omega) (by have := HTT.out; have := HXL.out; omega); rw [← HYY.out] at cp; have HPY := Lib.hid (HPX.out.laid Y)))
              go_wp2_with fail
              go_roundw
              case rel => exact ⟨k + 1, rs ++ [t], rest2, by omega, by go_num, by simp; omega, Lib.hid (by rw [← HST.out]; exact HPY.out), HRD2, hrl2⟩
              case measure => simp only [intOf]; omega
          | false =>
            by_cases ht9 : rest.length < pz
            · have HN : Hid (getT s = none) := Lib.hid (by rw [HSPEC.out, HRD.out.none (by omega) (by unfold takeRow; rw [if_neg (by simp), if_pos (by rw [Nat.mul_comm z p, ← HPZ.out]; exact ht9)])])
              have KT := Lib.hid (take_bad (w.heap.size + 1 + 1) rest (pz : Int) wr HGT.out.a.r (by omega) hrl)
              unfold Thrown at KT
              clear ht9
              as_aux_lemma =>
              go_wp2_with fail
              refine KT.out.mono ?_
              clear KT
              rintro e wq ⟨rfl, rfl⟩
              have HGE := Lib.hid HGT.out.a.weak
              clear d0 cy hsz
              as_aux_lemma =>
              go_wp2_with fail
              as_aux_lemma =>
              have HE1 := Lib.hid (HGE.out.setE 6)
              have HE2 := Lib.hid ((((HE1.out.setM 0 (by simp [zim]) (.int .i64 0)).setM 1 (by simp [zim]) (.int .i64 0)).setM 2 (by simp [zim]) (.int .i64 0)).setM 3 (by simp [zim]) (.slice none 0 0))
              as_aux_lemma =>
              refine leaves_cons (f := 42) (args := #[.pointer (some ⟨w.heap.size + 1, 0, none⟩), .func (.func 46) #[] #[.pointer (some ⟨w.heap.size, 0, none⟩)]]) (by simp) (by simp [go_sem]) ?_
              refine (caught_g (w.heap.size + 1) w.heap.size 6 [] _ _ (.int .i64 0) (HGE.out.e.c 0 _ rfl) (HGE.out.e.f 0) (clearG w.heap.size _ _ HE1.out.m rfl)).mono ?_
              rintro e u' w'' ⟨rfl, rfl, rfl⟩
              have HF := HE2.out
              clear HE1 HE2 HGE
              generalize World.setCell _ ⟨w.heap.size, 3, none⟩ (.slice none 0 0) = V at *
              have e0 := HF.m.c 0 _ rfl
              have e1 := HF.m.c 1 _ rfl
              have e2 := HF.m.c 2 _ rfl
              have e3 := HF.m.c 3 _ rfl
              have e4 := HF.e.c 0 _ rfl
              as_aux_lemma =>
              refine ⟨.tuple #[zimV, .int .i64 6], ?_, FIN2.out _ HN.out HF.below⟩
              simp [results, Try.results25, go_sem, e0, e1, e2, e3, e4, zimV]
            · have HRD2 := Lib.hid (HRD.out.some (o := (rest.take pz, rest.drop pz)) (by omega) (by omega) (by unfold takeRow; rw [if_neg (by simp), Nat.mul_comm z p, ← HPZ.out, if_neg ht9]))
              have hol : (rest.take pz).length = pz := by rw [List.length_take]; omega
              have hrl2 : (rest.drop pz).length ≤ 1000000 := by rw [List.length_drop]; omega
              have KT := Lib.hid (take_ok (w.heap.size + 1 + 1) rest (pz : Int) pz wr HGT.out.a.r rfl (by omega) hrl)
              have HGT2 := Lib.hid (HGT.out.took (rest.drop pz))
              unfold strV at KT HGT2
              generalize wr.setCell ⟨w.heap.size + 1 + 1, 0, none⟩ (.string ⟨(rest.drop pz).toArray⟩) = wq at *
              generalize rest.drop pz = rest2 at *
              generalize rest.take pz = t at *
              clear ht9
              as_aux_lemma =>
              go_wp2_with fail
              refine KT.out.mono ?_
              clear KT
              rintro e _ ⟨rfl, rfl⟩
              have HGT := HGT2
              clear d0 cy hsz HGT2
              have htl : t.length = pz := hol
              have d0 := HGT.out.a.m.c 0 _ rfl
              have d3 := HGT.out.a.m.c 3 _ rfl
              obtain ⟨yp, hyp⟩ : ∃ yp, yp = y * p := ⟨_, rfl⟩
              obtain ⟨i0, hi0⟩ : ∃ i0, i0 = y * pz := ⟨_, rfl⟩
              have hi1 : i0 + pz ≤ n := by rw [hi0, HNQ.out, ← Nat.succ_mul]; exact Nat.mul_le_mul_right _ hyq
              have ey1 : (y : Int) * (p : Int) = (yp : Int) := by rw [hyp]; simp
              have ey2 : (yp : Int) * (z : Int) = (i0 : Int) := by rw [hyp, hi0, HPZ.out]; simp [Int.mul_assoc]
              have hyp9 : yp ≤ 65536 := by rw [hyp]; have := Nat.mul_le_mul (show y ≤ 256 by omega) hp2; omega
              have w1' : IntKind.i64.wrap (yp : Int) = (yp : Int) := by rw [IntKind.wrap_i64]; omega
              have w2' : IntKind.i64.wrap (i0 : Int) = (i0 : Int) := by rw [IntKind.wrap_i64]; omega
              have hXl : (contT z pz q tp rs).length = n := by rw [HNQ.out]; exact cont_len (by rw [HPZ.out]; exact HRD.out.2.1) (by omega)
              have HST : Hid ((contT z pz q tp rs).take i0 ++ turnedT z t ++ (contT z pz q tp rs).drop (i0 + (turnedT z t).length) = contT z pz q tp (rs ++ [t])) := Lib.hid (by
                rw [turnedT_len, htl, hi0, HY.out, ← hrk]
                exact cont_step (by rw [HPZ.out]; exact HRD.out.2.1) (by omega) htl)
              have htt : (turnedT z t).length = pz := by rw [turnedT_len]; exact htl
              have KT := Lib.hid (fun W => turned_any z p t W hz (by omega) (by rw [htl, HPZ.out]) hp1)
              generalize contT z pz q tp rs = X at *
              obtain ⟨Y, hY⟩ : ∃ Y, Y = X.take i0 ++ turnedT z t ++ X.drop (i0 + (turnedT z t).length) := ⟨_, rfl⟩
              rw [← hY] at HST
              have HYY := Lib.hid hY
              clear hY
              clear hyp hi0
              have HTT := Lib.hid htt
              have HXL := Lib.hid hXl
              clear hol htl htt hXl
              have hci : ¬ n = i0 := by omega
              have b0 : (0 : Int) ≤ (i0 : Int) := by omega
              have b1 : (i0 : Int) ≤ (n : Int) := by omega
              have a1 : (⟨D, 0, none⟩ : Addr).add i0 = ⟨D, i0, none⟩ := addr_lit _ _
              have HPX := HGT
              unfold SR at KT
              as_aux_lemma =>
              go_wp2_with fail
              refine wp_calmB ?_
              go_region_held3 (fun w' => w'.cell? ⟨w.heap.size, 3, none⟩ = some (.slice (some ⟨D, 0, none⟩) n n) ∧ w'.cell? ⟨w.heap.size, 0, none⟩ = some (.int .i64 (p : Int)))
                (refine ⟨?_, ?_⟩ <;> (first | with_reducible assumption | exact HPX.out.a.m.c 3 _ rfl | exact HPX.out.a.m.c 0 _ rfl | exact HPY.out.a.m.c 3 _ rfl | exact HPY.out.a.m.c 0 _ rfl))
                (first | (go_at_call 33; refine (KT.out _).mono ?_; clear KT; rintro e wx ⟨rfl, hbx⟩; have HPX := Lib.hid (HPX.out.grown ((Below.refl _ _).drew.trans (hbx.mono (by simp)))); have cp := fun ty => copy_at wx D i0 (n - i0) X (turnedT z t) ty HPX.out.d (by have := HTT.out; omega) (by have := HTT.out; have := HXL.out; omega); rw [← HYY.out] at cp; have HPY := Lib.hid (HPX.out.laid Y)))
              go_wp2_with fail
              go_roundw
              case rel => exact ⟨k + 1, rs ++ [t], rest2, by omega, by go_num, by simp; omega, Lib.hid (by rw [← HST.out]; exact HPY.out), HRD2, hrl2⟩
              case measure => simp only [intOf]; omega
        · have t0 : decide ((k : Int) < (q : Int)) = false := decide_eq_false (by omega)
          have hkq : k = q := by omega
          have HROWS := Lib.hid (HRD.out.done (by omega))
          have d0 := HGT.out.a.r.c 0 _ rfl
          unfold strV at d0
          cases hft : (rest == footT) with
          | false =>
            have HN : Hid (getT s = none) := Lib.hid (by rw [HSPEC.out, HROWS.out]; simp only; rw [if_neg (by simpa using hft)])
            have KM := Lib.hid must_bad
            unfold Thrown at KM
            unfold footT at hft
            have HGE := Lib.hid HGT.out.a.weak
            as_aux_lemma =>
            go_wp2_with fail
            refine (KM.out _).mono ?_
            clear KM
            rintro e w8 ⟨rfl, rfl⟩
            clear hft d0
            as_aux_lemma =>
            go_wp2_with fail
            as_aux_lemma =>
            have HE1 := Lib.hid (HGE.out.setE 6)
            have HE2 := Lib.hid ((((HE1.out.setM 0 (by simp [zim]) (.int .i64 0)).setM 1 (by simp [zim]) (.int .i64 0)).setM 2 (by simp [zim]) (.int .i64 0)).setM 3 (by simp [zim]) (.slice none 0 0))
            as_aux_lemma =>
            refine leaves_cons (f := 42) (args := #[.pointer (some ⟨w.heap.size + 1, 0, none⟩), .func (.func 46) #[] #[.pointer (some ⟨w.heap.size, 0, none⟩)]]) (by simp) (by simp [go_sem]) ?_
            refine (caught_g (w.heap.size + 1) w.heap.size 6 [] _ _ (.int .i64 0) (HGE.out.e.c 0 _ rfl) (HGE.out.e.f 0) (clearG w.heap.size _ _ HE1.out.m rfl)).mono ?_
            rintro e u' w'' ⟨rfl, rfl, rfl⟩
            have HF := HE2.out
            clear HE1 HE2 HGE
            generalize World.setCell _ ⟨w.heap.size, 3, none⟩ (.slice none 0 0) = V at *
            have e0 := HF.m.c 0 _ rfl
            have e1 := HF.m.c 1 _ rfl
            have e2 := HF.m.c 2 _ rfl
            have e3 := HF.m.c 3 _ rfl
            have e4 := HF.e.c 0 _ rfl
            as_aux_lemma =>
            refine ⟨.tuple #[zimV, .int .i64 6], ?_, FIN2.out _ HN.out HF.below⟩
            simp [results, Try.results25, go_sem, e0, e1, e2, e3, e4, zimV]
          | true =>
            have HGETS : Hid (getT s = some ⟨p, q, z, dataT z tp rs⟩) := Lib.hid (by rw [HSPEC.out, HROWS.out]; simp only; rw [if_pos (by simpa using hft)])
            have F1 : Hid (∀ w', Byts w' w'.heap.size (some ⟨D, 0, none⟩) n (dataT z tp rs) → Below w.heap.size w w' → Qp (.returned (.tuple #[imV p q ((8 * z : Nat) : Int) (some ⟨D, 0, none⟩) n n, .int .i64 0])) w') := Lib.hid fun w' h1 h2 => FIN1.out ⟨p, q, z, _⟩ _ _ _ _ HGETS.out h1 (Nat.le_refl _) (by omega) h2
            have hdl : (dataT z tp rs).length = n := by rw [← cont_done (n := pz) (q := q) (by omega), HNQ.out]; exact cont_len (by rw [HPZ.out]; exact HRD.out.2.1) (by omega)
            have HDD := Lib.hid HGT.out.d
            rw [cont_done (by omega)] at HDD
            have HDL := Lib.hid hdl; clear hdl
            have HA := Lib.hid HGT.out.a
            have HLD := Lib.hid HGT.out.l1
            generalize ((8 * z : Nat) : Int) = zz at F1 HA
            have KM := Lib.hid must_ok
            unfold footT at hft
            as_aux_lemma =>
            go_wp2_with fail
            refine (KM.out _).mono ?_
            clear KM
            rintro e w8 ⟨rfl, rfl⟩
            clear hft d0
            have d0 := HA.out.m.c 0 _ rfl
            have d1 := HA.out.m.c 1 _ rfl
            have d2 := HA.out.m.c 2 _ rfl
            have d3 := HA.out.m.c 3 _ rfl
            have f0 := HA.out.m.f 0
            have f1 := HA.out.m.f 1
            have f2 := HA.out.m.f 2
            have f3 := HA.out.m.f 3
            have d4 := HA.out.e.c 0 _ rfl
            have f4 := HA.out.e.f 0
            as_aux_lemma =>
            go_wp2_with fail
            as_aux_lemma =>
            have HF := Lib.hid (((((HA.out.setM 0 (by simp) (.int .i64 (p : Int))).setM 1 (by simp) (.int .i64 (q : Int))).setM 2 (by simp) (.int .i64 zz)).setM 3 (by simp) (.slice (some ⟨D, 0, none⟩) n n)).setE 0)
            replace HF : Hid (GetAt w _ [.int .i64 (p : Int), .int .i64 (q : Int), .int .i64 zz, .slice (some ⟨D, 0, none⟩) n n] 0 rest) := HF
            have hld1 : w.heap.size < D := Nat.lt_of_lt_of_le (by simp) HLD.out
            have hld2 : w.heap.size + 1 < D := Nat.lt_of_lt_of_le (by simp) HLD.out
            have hd1 := data_kept HDD.out hld1 0 (.int .i64 (p : Int))
            have hd2 := data_kept hd1 hld1 1 (.int .i64 (q : Int))
            have hd3 := data_kept hd2 hld1 2 (.int .i64 zz)
            have hd4 := data_kept hd3 hld1 3 (.slice (some ⟨D, 0, none⟩) n n)
            have HDF := Lib.hid (data_kept hd4 hld2 0 (.int .i64 0))
            clear hd1 hd2 hd3 hd4 hld1 hld2 HDD
            as_aux_lemma =>
            refine leaves_cons (f := 42) (args := #[.pointer (some ⟨w.heap.size + 1, 0, none⟩), .func (.func 46) #[] #[.pointer (some ⟨w.heap.size, 0, none⟩)]]) (by simp) (by simp [go_sem]) ?_
            refine (caught_idle _ _ _).mono ?_
            rintro e u' w'' ⟨rfl, rfl, rfl⟩
            generalize World.setCell _ ⟨w.heap.size + 1, 0, none⟩ (.int .i64 0) = V at *
            have g0 := HF.out.m.c 0 _ rfl
            have g1 := HF.out.m.c 1 _ rfl
            have g2 := HF.out.m.c 2 _ rfl
            have g3 := HF.out.m.c 3 _ rfl
            have g4 := HF.out.e.c 0 _ rfl
            as_aux_lemma =>
            refine ⟨.tuple #[imV p q zz (some ⟨D, 0, none⟩) n n, .int .i64 0], ?_, F1.out _ (byts_at HDF.out HDL.out (by omega)) HF.out.below⟩
            simp [results, Try.results25, go_sem, g0, g1, g2, g3, g4, imV]
end Go.Proofs.Ytfkkppagbhllgaa

/-
  tga.Get on any text.
-/
set_option linter.unusedVariables false
namespace Go.Proofs.Ytfkkppagbhllgaa
open Go.RowKit
theorem get_any (s : List UInt8) (w : World) (hl : s.length ≤ 1000000) : Calls Try.prog 25 #[.string ⟨s.toArray⟩] w (GetRes s w) := by
  by_cases h : s.length < 18
  · exact get_short s w hl h
  · exact get_long s w hl (by omega)
end Go.Proofs.Ytfkkppagbhllgaa

/-
  THE WALK OF limewashlaw29.pictured.
-/
set_option linter.unusedVariables false
set_option linter.unusedSimpArgs false
set_option maxRecDepth 100000
namespace Go.Proofs.Ytfkkppagbhllgaa
open Go.RowKit

theorem pic1 (W : World) : Calls Try.prog 16 #[.string ⟨#[97, 97, 97, 97, 97, 97, 97, 97, 97, 98, 98, 98, 99, 99, 99, 99, 99, 99]⟩, .int .i64 3] W fun e W' =>
    e = .returned (.tuple #[.string ⟨#[130, 97, 97, 97, 0, 98, 98, 98, 129, 99, 99, 99]⟩, .int .i64 0]) ∧ Below W.heap.size W W' := by
  have h := pack_any [97, 97, 97, 97, 97, 97, 97, 97, 97, 98, 98, 98, 99, 99, 99, 99, 99, 99] 3 W (by decide) (by unfold i64b; omega)
  have e : packR [97, 97, 97, 97, 97, 97, 97, 97, 97, 98, 98, 98, 99, 99, 99, 99, 99, 99] 3 = ([130, 97, 97, 97, 0, 98, 98, 98, 129, 99, 99, 99], 0) := by decide +kernel
  rw [e] at h
  exact h
theorem pic2 (W : World) : Calls Try.prog 16 #[.string ⟨#[97, 97, 97, 98, 98, 98, 99, 99, 99]⟩, .int .i64 3] W fun e W' =>
    e = .returned (.tuple #[.string ⟨#[2, 97, 97, 97, 98, 98, 98, 99, 99, 99]⟩, .int .i64 0]) ∧ Below W.heap.size W W' := by
  have h := pack_any [97, 97, 97, 98, 98, 98, 99, 99, 99] 3 W (by decide) (by unfold i64b; omega)
  have e : packR [97, 97, 97, 98, 98, 98, 99, 99, 99] 3 = ([2, 97, 97, 97, 98, 98, 98, 99, 99, 99], 0) := by decide +kernel
  rw [e] at h
  exact h
theorem pic3 (W : World) : Calls Try.prog 18 #[.string ⟨#[129, 120, 121, 122, 0, 97, 98, 99, 33]⟩, .int .i64 3, .int .i64 3] W fun e W' =>
    e = .returned (.tuple #[.string ⟨#[120, 121, 122, 120, 121, 122, 97, 98, 99]⟩, .int .i64 8, .int .i64 0]) ∧ Below W.heap.size W W' := by
  have h := unp_any [129, 120, 121, 122, 0, 97, 98, 99, 33] 3 3 W (by decide)
  have u : unpackT 3 3 [129, 120, 121, 122, 0, 97, 98, 99, 33] = some ([120, 121, 122, 120, 121, 122, 97, 98, 99], [33]) := by
    rw [unpackT_cons _ _ _ _ (by decide)]
    rw [if_neg (by decide), if_pos (by decide), if_neg (by decide)]
    rw [show 3 - ((129 : UInt8).toNat % 128 + 1) = 1 from rfl, show List.drop 3 ([120, 121, 122, 0, 97, 98, 99, 33] : List UInt8) = [0, 97, 98, 99, 33] from rfl]
    rw [unpackT_cons _ _ _ _ (by decide)]
    rw [if_neg (by decide), if_neg (by decide), if_neg (by decide)]
    rw [show 1 - ((0 : UInt8).toNat % 128 + 1) = 0 from rfl, unpackT_zero]
    rfl
  have e : unR [129, 120, 121, 122, 0, 97, 98, 99, 33] 3 3 = ([120, 121, 122, 120, 121, 122, 97, 98, 99], 8, 0) := by
    unfold unR
    rw [if_pos (by decide)]
    rw [show (3 : Int).toNat = 3 from rfl, u]
    rfl
  rw [e] at h
  exact h

/-- the picture of the document's rows -/
def picM : Im := ⟨1, 1, 4, [7, 7, 7, 255]⟩
theorem picM_ok : picM.ok := ⟨by decide, by decide, by decide, by decide, .inr rfl, rfl⟩
theorem pic4 (W : World) (B : Nat) (A : Option Addr) (c : Nat) (hI : Ints W W.heap.size A 1 [7]) : Calls Try.prog 14 #[.int .i64 1, .slice A 1 c, .int .i64 32] W fun e W' =>
    Below W.heap.size W W' ∧ ∃ A' c', e = .returned (.tuple #[imV 1 1 32 A' 4 c', .int .i64 0]) ∧ Byts W' W'.heap.size A' 4 [7, 7, 7, 255] ∧ 4 ≤ c' ∧ c' ≤ 9223372036854775807 := by
  refine (grey_any A 1 c [7] 1 32 W hI (by omega) (by unfold i64b; omega)).mono ?_
  rintro e W' ⟨hb, h⟩
  refine ⟨hb, ?_⟩
  have g : greyOk 1 [7] 32 = true := by decide
  rcases h with ⟨h, _⟩ | ⟨_, A', n', c', rfl, h1, h2, h3⟩
  · rw [g] at h; cases h
  · have e1 : greyT ((32 : Int) / 8).toNat [7] = [7, 7, 7, 255] := by decide
    rw [e1] at h1
    have hl := h1.length
    obtain rfl : n' = 4 := hl.symm
    exact ⟨A', c', rfl, h1, h2, h3⟩
theorem pic5 (W : World) (A : Option Addr) (c : Nat) (h1 : Byts W W.heap.size A 4 [7, 7, 7, 255]) (h2 : 4 ≤ c) (h3 : c ≤ 9223372036854775807) : Calls Try.prog 12 #[imV 1 1 32 A 4 c, .bool false, .bool true] W fun e W' =>
    e = .returned (.tuple #[.string ⟨(putT 1 1 4 [7, 7, 7, 255] false true).toArray⟩, .int .i64 0]) ∧ Below W.heap.size W W' := by
  have h := put_any 1 1 32 A 4 c [7, 7, 7, 255] false true W h1 h2 h3
  have e : putR 1 1 32 [7, 7, 7, 255] false true = (putT 1 1 4 [7, 7, 7, 255] false true, 0) := by unfold putR; rw [if_pos (by decide)]; rfl
  rw [e] at h
  exact h
theorem picP_len : (putT 1 1 4 [7, 7, 7, 255] false true).length = 48 := put_len picM_ok true
theorem pic6 (W : World) : Calls Try.prog 25 #[.string ⟨(putT 1 1 4 [7, 7, 7, 255] false true).toArray⟩] W fun e W' =>
    Below W.heap.size W W' ∧ ∃ A' c', e = .returned (.tuple #[imV 1 1 32 A' 4 c', .int .i64 0]) ∧ Byts W' W'.heap.size A' 4 [7, 7, 7, 255] := by
  refine (get_any _ W (by rw [picP_len]; decide)).mono ?_
  rintro e W' ⟨hb, h⟩
  refine ⟨hb, ?_⟩
  have g : getT (putT 1 1 4 [7, 7, 7, 255] false true) = some picM := get_put picM_ok false true
  rw [g] at h
  rcases h with ⟨h, _⟩ | ⟨m, A', n', c', hm, rfl, h1, h2, h3⟩
  · cases h
  · cases hm
    have hl := h1.length
    obtain rfl : n' = 4 := hl.symm
    exact ⟨A', c', rfl, h1⟩
theorem pic7 (W : World) : Calls Try.prog 25 #[.string ⟨#[]⟩] W fun e W' =>
    Below W.heap.size W W' ∧ e = .returned (.tuple #[zimV, .int .i64 6]) := by
  refine (get_any [] W (by decide)).mono ?_
  rintro e W' ⟨hb, h⟩
  refine ⟨hb, ?_⟩
  have g : getT [] = none := by unfold getT; rfl
  rw [g] at h
  rcases h with ⟨_, h⟩ | ⟨m, A', n', c', hm, _⟩
  · exact h
  · cases hm

set_option maxHeartbeats 1600000 in
theorem pictured_any (w : World) : Calls Try.prog 20 #[] w fun e w' => e = .returned (.bool true) ∧ Below w.heap.size w w' := by
  have K1 := Lib.hid pic1
  have K2 := Lib.hid pic2
  have K3 := Lib.hid pic3
  have K7 := Lib.hid pic7
  go_enter Try.func20, Try.ntmps20
  go_wp2_with fail
  refine (K1.out _).mono ?_
  rintro e w1 ⟨rfl, hb1⟩
  clear K1
  go_wp2_with fail
  refine (K2.out _).mono ?_
  rintro e w2 ⟨rfl, hb2⟩
  clear K2
  have hB2 := hb1.trans (hb2.mono hb1.size)
  clear hb1 hb2
  go_wp2_with fail
  refine (K3.out _).mono ?_
  rintro e w3 ⟨rfl, hb3⟩
  clear K3
  have HB3 := Lib.hid (hB2.trans (hb3.mono hB2.size))
  clear hB2 hb3
  go_wp2_with fail
  have hb4 : Below w.heap.size w (w3.alloc (.cells #[.int .i64 7] 3)) := HB3.out.alloc HB3.out.size _
  have hI := Ints.laid [7] #[.int .i64 7] rfl 3 (by unfold I64; decide) (by decide) w3 (w3.alloc (.cells #[.int .i64 7] 3)).heap.size (by simp)
  have K4 := Lib.hid (pic4 (w3.alloc (.cells #[.int .i64 7] 3)) 0 _ 1 hI)
  have HB4 := Lib.hid hb4
  clear hb4 hI HB3
  generalize (w3.alloc (.cells #[.int .i64 7] 3)) = W3 at *
  refine K4.out.mono ?_
  rintro e w4 ⟨hb, A, c, rfl, hBy, hc1, hc2⟩
  have HB5 := Lib.hid (HB4.out.trans (hb.mono HB4.out.size))
  have HBY := Lib.hid hBy
  clear K4 hb HB4 hBy
  unfold imV
  have hbb : Below w4.heap.size w4 (w4.alloc (.cells #[.int .i64 1, .int .i64 1, .int .i64 32, .slice A 4 c] 24)) := (Below.refl _ _).alloc (Nat.le_refl _) _
  have HM := Lib.hid (SlotN.new w4 [.int .i64 1, .int .i64 1, .int .i64 32, .slice A 4 c] #[.int .i64 1, .int .i64 1, .int .i64 32, .slice A 4 c] 24 rfl)
  have HBY6 := Lib.hid ((HBY.out.below hbb (Nat.le_refl _)).more hbb.size)
  have HB6 := Lib.hid (HB5.out.trans (hbb.mono HB5.out.size))
  have K5 := Lib.hid (pic5 _ A c HBY6.out hc1 hc2)
  have hz6 : w4.heap.size < (w4.alloc (.cells #[.int .i64 1, .int .i64 1, .int .i64 32, .slice A 4 c] 24)).heap.size := by simp
  clear HBY hbb HB5
  unfold imV at K5
  go_wp2_with fail
  generalize (w4.alloc (.cells #[.int .i64 1, .int .i64 1, .int .i64 32, .slice A 4 c] 24)) = W6 at *
  refine K5.out.mono ?_
  rintro e w7 ⟨rfl, hb⟩
  have HM7 := Lib.hid (HM.out.below hb hz6)
  have HBY7 := Lib.hid ((HBY6.out.below hb (Nat.le_refl _)).more hb.size)
  have HB7 := Lib.hid (HB6.out.trans (hb.mono HB6.out.size))
  have hz7 : w4.heap.size < w7.heap.size := Nat.lt_of_lt_of_le hz6 hb.size
  clear HM HBY6 HB6 hz6 hb K5
  have K6 := Lib.hid (pic6 w7)
  have hP := picP_len
  generalize putT 1 1 4 [7, 7, 7, 255] false true = P at *
  have HP := Lib.hid hP; clear hP
  go_wp2_with fail
  refine K6.out.mono ?_
  rintro e w8 ⟨hb, A2, c2, rfl, hBy2⟩
  have HM8 := Lib.hid (HM7.out.below hb hz7)
  have HBY8 := Lib.hid ((HBY7.out.below hb (Nat.le_refl _)).more hb.size)
  have HB8 := Lib.hid (HB7.out.trans (hb.mono HB7.out.size))
  have hz8 : w4.heap.size < w8.heap.size := Nat.lt_of_lt_of_le hz7 hb.size
  have HBZ := Lib.hid hBy2
  clear HM7 HBY7 HB7 hz7 hb K6 hBy2
  unfold imV
  have hbb : Below w8.heap.size w8 (w8.alloc (.cells #[.int .i64 1, .int .i64 1, .int .i64 32, .slice A2 4 c2] 24)) := (Below.refl _ _).alloc (Nat.le_refl _) _
  have HN9 := Lib.hid (SlotN.new w8 [.int .i64 1, .int .i64 1, .int .i64 32, .slice A2 4 c2] #[.int .i64 1, .int .i64 1, .int .i64 32, .slice A2 4 c2] 24 rfl)
  have HM9 := Lib.hid (HM8.out.below hbb hz8)
  have HBY9 := Lib.hid ((HBY8.out.below hbb (Nat.le_refl _)).more hbb.size)
  have HBZ9 := Lib.hid ((HBZ.out.below hbb (Nat.le_refl _)).more hbb.size)
  have HB9 := Lib.hid (HB8.out.trans (hbb.mono HB8.out.size))
  have hz9 : w8.heap.size < (w8.alloc (.cells #[.int .i64 1, .int .i64 1, .int .i64 32, .slice A2 4 c2] 24)).heap.size := by simp
  clear HM8 HBY8 HB8 HBZ hbb
  go_wp2_with fail
  generalize (w8.alloc (.cells #[.int .i64 1, .int .i64 1, .int .i64 32, .slice A2 4 c2] 24)) = W9 at *
  refine (K7.out _).mono ?_
  rintro e w10 ⟨hb, rfl⟩
  have HMa := Lib.hid (HM9.out.below hb (Nat.lt_trans hz8 hz9))
  have HNa := Lib.hid (HN9.out.below hb hz9)
  have HBYa := Lib.hid ((HBY9.out.below hb (Nat.le_refl _)).more hb.size)
  have HBZa := Lib.hid ((HBZ9.out.below hb (Nat.le_refl _)).more hb.size)
  have HBa := Lib.hid (HB9.out.trans (hb.mono HB9.out.size))
  have hza : w8.heap.size < w10.heap.size := Nat.lt_of_lt_of_le hz9 hb.size
  clear HM9 HN9 HBY9 HBZ9 HB9 hz9 hb K7
  unfold zimV
  have hbb : Below w10.heap.size w10 (w10.alloc (.cells zimC 24)) := (Below.refl _ _).alloc (Nat.le_refl _) _
  have HMb := Lib.hid (HMa.out.below hbb (Nat.lt_trans hz8 hza))
  have HNb := Lib.hid (HNa.out.below hbb hza)
  have HBYb := Lib.hid ((HBYa.out.below hbb (Nat.le_refl _)).more hbb.size)
  have HBZb := Lib.hid ((HBZa.out.below hbb (Nat.le_refl _)).more hbb.size)
  have HBb := Lib.hid (HBa.out.trans (hbb.mono HBa.out.size))
  have hzb : w8.heap.size < (w10.alloc (.cells zimC 24)).heap.size := Nat.lt_of_lt_of_le hza hbb.size
  clear HMa HNa HBYa HBZa HBa hza hbb
  unfold zimC at *
  have m0 := HMb.out.c 0 _ rfl
  have m1 := HMb.out.c 1 _ rfl
  have m2 := HMb.out.c 2 _ rfl
  have m3 := HMb.out.c 3 _ rfl
  have n0 := HNb.out.c 0 _ rfl
  have n1 := HNb.out.c 1 _ rfl
  have n2 := HNb.out.c 2 _ rfl
  have n3 := HNb.out.c 3 _ rfl
  have KS := Lib.hid (same_im _ 1 1 32 A 4 c _ 1 1 32 A2 4 c2 _ _ HBYb.out HBZb.out (Nat.le_refl _))
  have hP48 : (((P.length : Nat) : Int) == 48) = true := by rw [HP.out]; rfl
  unfold imV at KS
  go_wp2_with fail
  generalize (w10.alloc (.cells #[.int .i64 0, .int .i64 0, .int .i64 0, .slice none 0 0] 24)) = W11 at *
  refine KS.out.mono ?_
  rintro e w12 ⟨rfl, hb⟩
  have HMc := Lib.hid (HMb.out.below hb (Nat.lt_trans hz8 hzb))
  have HBc := Lib.hid (HBb.out.trans (hb.mono HBb.out.size))
  clear m0 m1 m2 m3 n0 n1 n2 n3 HMb HNb HBYb HBZb HBb hzb hb KS hP48 HP
  have m0 := HMc.out.c 0 _ rfl
  have m1 := HMc.out.c 1 _ rfl
  have m2 := HMc.out.c 2 _ rfl
  have m3 := HMc.out.c 3 _ rfl
  have KI := Lib.hid (is_any 1 1 32 A 4 c w12 (by decide))
  rw [show isT 1 1 32 4 = true from rfl] at KI
  unfold imV at KI
  go_wp2_with fail
  refine KI.out.mono ?_
  rintro e w13 ⟨rfl, hb⟩
  have HBd := Lib.hid (HBc.out.trans (hb.mono HBc.out.size))
  clear m0 m1 m2 m3 hb KI HMc HBc
  go_wp2_with fail
  go_ret
  exact ⟨rfl, HBd.out⟩
end Go.Proofs.Ytfkkppagbhllgaa

/-
  THE WALKS OF limewashref29's colour and Pack.
-/
set_option linter.unusedVariables false
set_option linter.unusedSimpArgs false
set_option maxRecDepth 100000
namespace Go.Proofs.Ytfkkppagbhllgaa
open Go.RowKit

theorem colour_any (z : Nat) (l : List UInt8) (i : Nat) (k : Int) (w : World) (hz : z = 3 ∨ z = 4) (hl : l.length ≤ 1000000) (hi : i < manyT z l) (hk : k = (i : Int)) :
    Calls Try.prog 41 #[.string ⟨l.toArray⟩, .int .i64 (z : Int), .int .i64 k] w fun e w' => e = .returned (.string ⟨(colT z l i).toArray⟩) ∧ w' = w := by
  subst hk
  have hiz : (i + 1) * z ≤ l.length := by
    have h1 : (i + 1) * z ≤ manyT z l * z := Nat.mul_le_mul_right _ hi
    have h2 : manyT z l * z ≤ l.length := Nat.div_mul_le_self _ _
    omega
  have hiz' := hiz
  rw [Nat.succ_mul] at hiz'
  have HM : (z : Int) * (i : Int) = ((i * z : Nat) : Int) := by rw [Int.mul_comm]; simp
  have HS : ∀ W, (Instr.slice 9 (.string ⟨l.toArray⟩) (some (.int .i64 ((i * z : Nat) : Int))) (some (.int .i64 (((i * z : Nat) : Int) + (z : Int)))) none).run Try.prog W = .ok (.string ⟨(colT z l i).toArray⟩) W := fun W => by
    rw [run_sl 9 l _ _ (i * z) (i * z + z) rfl (by simp) (Nat.le_add_right _ _) hiz' Try.underlying9 W]
    unfold colT
    rw [show i * z + z - i * z = z by omega]
  generalize i * z = a at *
  have w1 : IntKind.i64.wrap ((a : Nat) : Int) = (a : Int) := by rw [IntKind.wrap_i64]; omega
  have w2 : IntKind.i64.wrap (((a : Nat) : Int) + (z : Int)) = (a : Int) + (z : Int) := by rw [IntKind.wrap_i64]; omega
  clear hiz hi hz
  go_enter Try.func41, Try.ntmps41
  go_wp2_with fail
  go_ret
  exact ⟨rfl, rfl⟩
theorem colT_len {z : Nat} {s : List UInt8} {i : Nat} (hl : s.length = manyT z s * z) (h : i < manyT z s) : (colT z s i).length = z := by
  rw [← spanT_one, spanT_len hl (by omega), Nat.one_mul]
/-- one byte, made a text -/
theorem byte_text (W : World) (c : UInt8) (x : Int) (hx : x = (c.toNat : Int)) (B : Nat) (hB : B = W.heap.size) :
    (convert 22 9 (.slice (some ⟨B, 0, none⟩) 1 1)).run Try.prog (W.alloc (.cells #[.int .u8 x] 5)) = .ok (.string ⟨#[c]⟩) (W.alloc (.cells #[.int .u8 x] 5)) := by
  subst hx; subst hB
  exact run_convert_bytes_back (P := Try.prog) (W.alloc (.cells #[.int .u8 (c.toNat : Int)] 5)) 22 9 5 ⟨W.heap.size, 0, none⟩ 1 [c] Try.underlying22 Try.underlying5 Try.underlying9 fun j hj => by
    obtain rfl : j = 0 := by simp at hj; omega
    rw [addr_lit, cell_of_row _ _ _ _ _ _ (heap_alloc_new W _)]
    rfl

set_option maxHeartbeats 1600000 in
theorem packref_no (s : List UInt8) (size : Int) (w : World) (hl : s.length ≤ 1000000) (h : packOk s size = false) :
    Calls Try.prog 17 #[.string ⟨s.toArray⟩, .int .i64 size] w fun e w' => e = .returned (.tuple #[.string ⟨#[]⟩, .int .i64 1]) ∧ Below w.heap.size w w' := by
  by_cases h3 : size = 3
  · subst h3
    have tm : (s.length : Int).tmod 3 = ((s.length % 3 : Nat) : Int) := by rw [Int.tmod_eq_emod_of_nonneg (by omega)]; rfl
    have h9 : s.length % 3 ≠ 0 ∧ s.length % 3 ≤ 4 := by
      unfold packOk at h
      rw [decide_eq_false_iff_not] at h
      omega
    have t9 : (((s.length % 3 : Nat) : Int) != 0) = true := by rw [bne_iff_ne]; omega
    have w9 : IntKind.i64.wrap ((s.length % 3 : Nat) : Int) = ((s.length % 3 : Nat) : Int) := by rw [IntKind.wrap_i64]; omega
    generalize s.length % 3 = N at *
    clear h h9 hl
    go_enter Try.func17, Try.ntmps17
    go_wp2_with fail
    go_ret2
    exact ⟨rfl, Below.refl _ _⟩
  · by_cases h4 : size = 4
    · subst h4
      have tm : (s.length : Int).tmod 4 = ((s.length % 4 : Nat) : Int) := by rw [Int.tmod_eq_emod_of_nonneg (by omega)]; rfl
      have h9 : s.length % 4 ≠ 0 ∧ s.length % 4 ≤ 4 := by
        unfold packOk at h
        rw [decide_eq_false_iff_not] at h
        omega
      have t9 : (((s.length % 4 : Nat) : Int) != 0) = true := by rw [bne_iff_ne]; omega
      have w9 : IntKind.i64.wrap ((s.length % 4 : Nat) : Int) = ((s.length % 4 : Nat) : Int) := by rw [IntKind.wrap_i64]; omega
      generalize s.length % 4 = N at *
      clear h h9 hl h3
      go_enter Try.func17, Try.ntmps17
      go_wp2_with fail
      go_ret2
      exact ⟨rfl, Below.refl _ _⟩
    · have t3 : (size != 3) = true := by rw [bne_iff_ne]; exact h3
      have t4 : (size != 4) = true := by rw [bne_iff_ne]; exact h4
      clear h hl h3 h4
      go_enter Try.func17, Try.ntmps17
      go_wp2_with fail
      go_ret2
      exact ⟨rfl, Below.refl _ _⟩
end Go.Proofs.Ytfkkppagbhllgaa

/-
  THE WALK OF limewashref29.Unpack.
-/
set_option linter.unusedVariables false
set_option linter.unusedSimpArgs false
set_option maxRecDepth 100000
namespace Go.Proofs.Ytfkkppagbhllgaa
open Go.RowKit

set_option maxHeartbeats 800000 in
theorem unref_no (s : List UInt8) (size many : Int) (w : World) (h : unOk size many = false) : Calls Try.prog 19 #[.string ⟨s.toArray⟩, .int .i64 size, .int .i64 many] w (UnpRes ([], 0, 1) w) := by
  unfold UnpRes strV
  unfold unOk at h
  rw [decide_eq_false_iff_not] at h
  by_cases h1 : size = 3 ∨ size = 4
  · by_cases h2 : many < 0
    · have t1 : decide (many < 0) = true := decide_eq_true h2
      rcases h1 with h1 | h1
      · have t3 : (size != 3) = false := by rw [h1]; rfl
        clear h h1 h2
        go_enter Try.func19, Try.ntmps19
        go_wp2_with fail
        go_ret3
        exact ⟨rfl, Below.refl _ _⟩
      · have t3 : (size != 3) = true := by rw [h1]; rfl
        have t4 : (size != 4) = false := by rw [h1]; rfl
        clear h h1 h2
        go_enter Try.func19, Try.ntmps19
        go_wp2_with fail
        go_ret3
        exact ⟨rfl, Below.refl _ _⟩
    · have t1 : decide (many < 0) = false := decide_eq_false h2
      have t2 : decide (256 < many) = true := decide_eq_true (by omega)
      rcases h1 with h1 | h1
      · have t3 : (size != 3) = false := by rw [h1]; rfl
        clear h h1 h2
        go_enter Try.func19, Try.ntmps19
        go_wp2_with fail
        go_ret3
        exact ⟨rfl, Below.refl _ _⟩
      · have t3 : (size != 3) = true := by rw [h1]; rfl
        have t4 : (size != 4) = false := by rw [h1]; rfl
        clear h h1 h2
        go_enter Try.func19, Try.ntmps19
        go_wp2_with fail
        go_ret3
        exact ⟨rfl, Below.refl _ _⟩
  · have t3 : (size != 3) = true := by rw [bne_iff_ne]; omega
    have t4 : (size != 4) = true := by rw [bne_iff_ne]; omega
    have h2 : True := trivial
    clear h h1 h2
    go_enter Try.func19, Try.ntmps19
    go_wp2_with fail
    go_ret3
    exact ⟨rfl, Below.refl _ _⟩
set_option maxHeartbeats 3200000 in
theorem unref_yes (s : List UInt8) (z n : Nat) (w : World) (hz : z = 3 ∨ z = 4) (hn : n ≤ 256) (hl : s.length ≤ 1000000) :
    Calls Try.prog 19 #[.string ⟨s.toArray⟩, .int .i64 (z : Int), .int .i64 (n : Int)] w (UnpRes (unR s z n) w) := by
  have FN : Hid (∀ W, unpackT z n s = none → Below w.heap.size w W → UnpRes (unR s z n) w (.returned (.tuple #[.string ⟨#[]⟩, .int .i64 0, .int .i64 6])) W) := Lib.hid fun W h hb => by
    unfold unR
    rw [if_pos (by unfold unOk; rw [decide_eq_true_iff]; omega), Int.toNat_natCast, Int.toNat_natCast, h]
    exact ⟨rfl, hb⟩
  have FY : Hid (∀ (W : World) (p : Nat) (acc : List UInt8), p ≤ s.length → unpackT z n s = some (acc, s.drop p) → Below w.heap.size w W → UnpRes (unR s z n) w (.returned (.tuple #[.string ⟨acc.toArray⟩, .int .i64 (p : Int), .int .i64 0])) W) := Lib.hid fun W p acc hp h hb => by
    unfold unR
    rw [if_pos (by unfold unOk; rw [decide_eq_true_iff]; omega), Int.toNat_natCast, Int.toNat_natCast, h]
    refine ⟨?_, hb⟩
    dsimp only
    rw [List.length_drop, show (s.length : Int) - ((s.length - p : Nat) : Int) = (p : Int) by omega]
    rfl
  generalize hQ : UnpRes (unR s z n) w = Qp at FN FY ⊢
  clear hQ
  have t8 : decide ((n : Int) < 0) = false := decide_eq_false (by omega)
  have t9 : decide ((256 : Int) < (n : Int)) = false := decide_eq_false (by omega)
  obtain ⟨N, hN⟩ : ∃ N, N = n * z := ⟨_, rfl⟩
  have hnz : n * z ≤ 256 * z := Nat.mul_le_mul_right _ hn
  have e1 : (n : Int) * (z : Int) = (N : Int) := by rw [hN]; simp
  have hN9 : N ≤ 1024 := by omega
  have wN : IntKind.i64.wrap (N : Int) = (N : Int) := by rw [IntKind.wrap_i64]; omega
  have z1 : 1 ≤ z := by omega
  have z4 : z ≤ 4 := by omega
  have HNN : Hid (N = n * z) := Lib.hid hN
  clear hN hnz
  rcases hz with hz | hz
  · have t3 : ((z : Int) != 3) = false := by rw [hz]; rfl
    clear hz
    go_enter Try.func19, Try.ntmps19
    go_wp2_with fail
    go_loopw [9, 10] (fun v i wr => ∃ (p k : Nat) (acc : List UInt8), p ≤ s.length ∧ i = .int .i64 (p : Int) ∧ v = .string ⟨acc.toArray⟩ ∧ acc.length = k * z ∧ acc.length ≤ N + 600 ∧ Hid (UnSt z n s k (s.drop p) acc) ∧ Hid (Below w.heap.size w wr)) (fun _ i _ => s.length - (intOf i).toNat)
    case atStart => exact ⟨0, 0, [], Nat.zero_le _, rfl, rfl, by simp, by simp, Lib.hid (UnSt.start z n s), Lib.hid (Below.refl _ _)⟩
    case round =>
      obtain ⟨p, k, acc, hp, rfl, rfl, hak, haN, hst, hbw⟩ := hrel
      by_cases hk : k < n
      · have hkz : k * z < N := by rw [HNN.out]; exact Nat.mul_lt_mul_of_pos_right hk (by omega)
        have t0 : decide ((acc.length : Int) < (N : Int)) = true := decide_eq_true (by omega)
        have t0n : decide (acc.length < N) = true := decide_eq_true (by omega)
        by_cases hps : s.length ≤ p
        · have t1 : decide ((s.length : Int) ≤ (p : Int)) = true := decide_eq_true (by omega)
          have t1n : decide (s.length ≤ p) = true := decide_eq_true (by omega)
          have hno : Hid (unpackT z n s = none) := Lib.hid (by
            have h9 := hst.out
            rw [List.drop_of_length_le hps] at h9
            exact h9.empty hk)
          clear hak hkz haN
          go_wp2_with fail
          go_ret3
          exact FN.out _ hno.out hbw.out
        · have t1 : decide ((s.length : Int) ≤ (p : Int)) = false := decide_eq_false (by omega)
          have t1n : decide (s.length ≤ p) = false := decide_eq_false (by omega)
          have hp2 : p < s.length := by omega
          obtain ⟨c, hc⟩ : ∃ c, c = s.getD p 0 := ⟨_, rfl⟩
          have hdc : s.drop p = c :: s.drop (p + 1) := by
            rw [hc, List.getD_eq_getElem?_getD, List.getElem?_eq_getElem hp2]
            exact List.drop_eq_getElem_cons hp2
          have hix := idx_str s p (p : Int) hp2 rfl
          rw [← hc] at hix
          have c8 := c.toNat_lt
          have wp1 : IntKind.i64.wrap ((p : Int) + 1) = (p : Int) + 1 := by rw [IntKind.wrap_i64]; omega
          have wc : IntKind.i64.wrap ((c.toNat : Nat) : Int) = (c.toNat : Int) := by rw [IntKind.wrap_i64]; omega
          have tmc : ((c.toNat : Nat) : Int).tmod 128 = ((c.toNat % 128 : Nat) : Int) := by rw [Int.tmod_eq_emod_of_nonneg (by omega)]; rfl
          have hst1 := hst.out
          rw [hdc] at hst1
          have hdl : (s.drop (p + 1)).length = s.length - (p + 1) := List.length_drop ..
          obtain ⟨x, hx⟩ : ∃ x, x = c.toNat := ⟨_, rfl⟩
          obtain ⟨y, hy⟩ : ∃ y, y = c.toNat % 128 := ⟨_, rfl⟩
          have hy8 : y < 128 := by omega
          rw [← hy, ← hx] at tmc
          rw [← hx] at hix wc
          have wy : IntKind.i64.wrap (y : Int) = (y : Int) := by rw [IntKind.wrap_i64]; omega
          have wy1 : IntKind.i64.wrap ((y : Int) + 1) = (y : Int) + 1 := by rw [IntKind.wrap_i64]; omega
          by_cases hc128 : 128 ≤ c.toNat
          · have t2 : decide ((128 : Int) ≤ (x : Int)) = true := decide_eq_true (by omega)
            have t2n : decide (128 ≤ x) = true := decide_eq_true (by omega)
            have wpz : IntKind.i64.wrap ((p : Int) + 1 + (z : Int)) = (p : Int) + 1 + (z : Int) := by rw [IntKind.wrap_i64]; omega
            by_cases hsh : s.length < p + 1 + z
            · have t3 : decide ((s.length : Int) < (p : Int) + 1 + (z : Int)) = true := decide_eq_true (by omega)
              have t3n : decide (s.length < p + 1 + z) = true := decide_eq_true (by omega)
              have hno : Hid (unpackT z n s = none) := Lib.hid (hst1.short hk hc128 (by omega))
              clear hak hkz haN hdc hst1 hdl hc hx hy hc128
              go_wp2_with fail
              go_ret3
              exact FN.out _ hno.out hbw.out
            · have t3 : decide ((s.length : Int) < (p : Int) + 1 + (z : Int)) = false := decide_eq_false (by omega)
              have t3n : decide (s.length < p + 1 + z) = false := decide_eq_false (by omega)
              have hnx := hst1.run hk hc128 (by omega)
              rw [List.drop_drop, ← hy] at hnx
              obtain ⟨T, hT⟩ : ∃ T, T = (s.drop (p + 1)).take z := ⟨_, rfl⟩
              have hTl : T.length = z := by rw [hT, List.length_take, hdl]; omega
              rw [← hT] at hnx
              have HNX := Lib.hid hnx
              have HS : ∀ W, (Instr.slice 9 (.string ⟨s.toArray⟩) (some (.int .i64 ((p : Int) + 1))) (some (.int .i64 ((p : Int) + 1 + (z : Int)))) none).run Try.prog W = .ok (.string ⟨T.toArray⟩) W := fun W => by
                rw [run_sl 9 s _ _ (p + 1) (p + 1 + z) (by simp) (by simp) (Nat.le_add_right _ _) (by omega) Try.underlying9 W]
                rw [show p + 1 + z - (p + 1) = z by omega, hT]
              have hyz : y * z ≤ 127 * z := Nat.mul_le_mul_right _ (by omega)
              have HBD := Lib.hid (⟨hak, hkz, haN, hyz⟩ : _ ∧ _ ∧ _ ∧ _)
              have hsh2 : p + 1 + z ≤ s.length := by omega
              clear hak hkz hdc hst1 hdl hc hx hy hc128 hnx hT hyz
              go_wp2_with fail
              obtain ⟨wo, hwo⟩ : ∃ wo : World, wo = wr := ⟨_, rfl⟩
              obtain rfl := hwo
              have HBW := hbw
              go_loopw [9, 13] (fun v i wr => ∃ j : Nat, j ≤ y + 1 ∧ i = .int .i64 (j : Int) ∧ v = .string ⟨(acc ++ (List.replicate j T).flatten).toArray⟩ ∧ Hid (Below w.heap.size w wr)) (fun _ i _ => y + 1 - (intOf i).toNat)
              case atStart => exact ⟨0, by omega, rfl, by simp, HBW⟩
              case round =>
                obtain ⟨j, hj, rfl, rfl, hbw2⟩ := hrel
                by_cases hjy : j < y + 1
                · have s0 : decide ((j : Int) < (y : Int) + 1) = true := decide_eq_true (by omega)
                  have s0n : decide (j < y + 1) = true := decide_eq_true (by omega)
                  have hjl : (acc ++ (List.replicate j T).flatten).length ≤ N + 2000 := by
                    have h5 : j * z ≤ 128 * z := Nat.mul_le_mul_right _ (by omega)
                    simp only [List.length_append, List.length_flatten, List.map_replicate, List.sum_replicate_nat, hTl]
                    omega
                  have hcat : ∀ W, (Op.stringOp .add ⟨(acc ++ (List.replicate j T).flatten).toArray⟩ ⟨T.toArray⟩).run Try.prog W = .ok (.string ⟨(acc ++ (List.replicate (j + 1) T).flatten).toArray⟩) W := fun W => by
                    rw [run_cat _ T (by omega) W, List.append_assoc]
                    rw [List.replicate_succ']
                    simp
                  have wj : IntKind.i64.wrap ((j : Int) + 1) = (j : Int) + 1 := by rw [IntKind.wrap_i64]; omega
                  generalize hA : acc ++ (List.replicate j T).flatten = A1 at *
                  generalize hA2 : acc ++ (List.replicate (j + 1) T).flatten = A2 at *
                  have HA2 := Lib.hid hA2
                  clear hA hA2
                  go_wp2_with fail
                  go_roundw
                  case rel => exact ⟨j + 1, by omega, by go_num, by rw [HA2.out], hbw2⟩
                  case measure => simp only [intOf]; omega
                · have s0 : decide ((j : Int) < (y : Int) + 1) = false := decide_eq_false (by omega)
                  have s0n : decide (j < y + 1) = false := decide_eq_false (by omega)
                  obtain rfl : j = y + 1 := by omega
                  obtain ⟨A1, hA⟩ : ∃ A1, A1 = acc ++ (List.replicate (y + 1) T).flatten := ⟨_, rfl⟩
                  have HX := HNX.out
                  rw [← hA] at HX ⊢
                  have HNX2 := Lib.hid HX
                  have hAl : A1.length = (k + (y + 1)) * z := by
                    rw [hA]
                    simp only [List.length_append, List.length_flatten, List.map_replicate, List.sum_replicate_nat, hTl]
                    rw [HBD.out.1, ← Nat.add_mul]
                  have hAm : A1.length ≤ N + 600 := by
                    have h5 : (y + 1) * z ≤ 128 * z := Nat.mul_le_mul_right _ (by omega)
                    have h6 := HBD.out.1
                    have h7 := HBD.out.2.1
                    rw [hAl, Nat.add_mul]
                    omega
                  clear hA HX
                  go_wp2_with fail
                  go_roundw
                  case rel => exact ⟨p + 1 + z, k + (y + 1), A1, hsh2, by go_num, rfl, hAl, hAm, by rw [show p + 1 + z = p + 1 + z from rfl]; exact HNX2, hbw2⟩
                  case measure => simp only [intOf]; omega
          · have t2 : decide ((128 : Int) ≤ (x : Int)) = false := decide_eq_false (by omega)
            have t2n : decide (128 ≤ x) = false := decide_eq_false (by omega)
            obtain ⟨G, hG⟩ : ∃ G, G = (y + 1) * z := ⟨_, rfl⟩
            have e5 : ((y : Int) + 1) * (z : Int) = (G : Int) := by rw [hG]; simp
            have hG9 : G ≤ 512 := by
              have h5 : (y + 1) * z ≤ 128 * z := Nat.mul_le_mul_right _ (by omega)
              omega
            have wG : IntKind.i64.wrap (G : Int) = (G : Int) := by rw [IntKind.wrap_i64]; omega
            have wpG : IntKind.i64.wrap ((p : Int) + 1 + (G : Int)) = (p : Int) + 1 + (G : Int) := by rw [IntKind.wrap_i64]; omega
            by_cases hsh : s.length < p + 1 + G
            · have t3 : decide ((s.length : Int) < (p : Int) + 1 + (G : Int)) = true := decide_eq_true (by omega)
              have t3n : decide (s.length < p + 1 + G) = true := decide_eq_true (by omega)
              have hno : Hid (unpackT z n s = none) := Lib.hid (hst1.short2 hk hc128 (by rw [← hy, ← hG]; omega))
              clear hak hkz haN hdc hst1 hdl hc hx hy hc128 hG hG9
              go_wp2_with fail
              go_ret3
              exact FN.out _ hno.out hbw.out
            · have t3 : decide ((s.length : Int) < (p : Int) + 1 + (G : Int)) = false := decide_eq_false (by omega)
              have t3n : decide (s.length < p + 1 + G) = false := decide_eq_false (by omega)
              have hnx := hst1.lit hk hc128 (by rw [← hy, ← hG]; omega)
              rw [List.drop_drop, ← hy, ← hG] at hnx
              obtain ⟨T, hT⟩ : ∃ T, T = (s.drop (p + 1)).take G := ⟨_, rfl⟩
              have hTl : T.length = G := by rw [hT, List.length_take, hdl]; omega
              rw [← hT] at hnx
              have HS : ∀ W, (Instr.slice 9 (.string ⟨s.toArray⟩) (some (.int .i64 ((p : Int) + 1))) (some (.int .i64 ((p : Int) + 1 + (G : Int)))) none).run Try.prog W = .ok (.string ⟨T.toArray⟩) W := fun W => by
                rw [run_sl 9 s _ _ (p + 1) (p + 1 + G) (by simp) (by simp) (Nat.le_add_right _ _) (by omega) Try.underlying9 W]
                rw [show p + 1 + G - (p + 1) = G by omega, hT]
              have hsh2 : p + 1 + G ≤ s.length := by omega
              obtain ⟨A1, hA⟩ : ∃ A1, A1 = acc ++ T := ⟨_, rfl⟩
              have hcat : ∀ W, (Op.stringOp .add ⟨acc.toArray⟩ ⟨T.toArray⟩).run Try.prog W = .ok (.string ⟨A1.toArray⟩) W := fun W => by
                rw [run_cat acc T (by omega) W, hA]
              have hAl : A1.length = (k + (y + 1)) * z := by
                rw [hA, List.length_append, hTl, hak, hG, ← Nat.add_mul]
              have hAm : A1.length ≤ N + 600 := by
                rw [hA, List.length_append, hTl]
                omega
              rw [← hA] at hnx
              have HNX := Lib.hid hnx
              clear hak hkz hdc hst1 hdl hc hx hy hc128 hnx hT hG hA
              go_wp2_with fail
              go_roundw
              case rel => exact ⟨p + 1 + G, k + (y + 1), A1, hsh2, by go_num, rfl, hAl, hAm, HNX, hbw⟩
              case measure => simp only [intOf]; omega
      · have hkz : N ≤ k * z := by rw [HNN.out]; exact Nat.mul_le_mul_right _ (by omega)
        have t0 : decide ((acc.length : Int) < (N : Int)) = false := decide_eq_false (by omega)
        have t0n : decide (acc.length < N) = false := decide_eq_false (by omega)
        by_cases hkn : k = n
        · have h5 : acc.length = N := by rw [hak, hkn, HNN.out]
          have t5 : decide ((N : Int) < (acc.length : Int)) = false := decide_eq_false (by omega)
          have t5n : decide (N < acc.length) = false := decide_eq_false (by omega)
          have h6 := hst.out
          rw [hkn] at h6
          have HDN := Lib.hid h6.done
          clear h6 h5 hkz hak haN hkn hk
          go_wp2_with fail
          go_ret3
          exact FY.out _ p acc hp HDN.out hbw.out
        · have h5 : N < acc.length := by
            have h7 : (n + 1) * z ≤ k * z := Nat.mul_le_mul_right _ (by omega)
            rw [Nat.succ_mul, ← HNN.out] at h7
            omega
          have t5 : decide ((N : Int) < (acc.length : Int)) = true := decide_eq_true (by omega)
          have t5n : decide (N < acc.length) = true := decide_eq_true (by omega)
          have hno := Lib.hid (hst.out.over (by omega))
          clear h5 hkz hak haN hkn hk
          go_wp2_with fail
          go_ret3
          exact FN.out _ hno.out hbw.out
  · have t3 : ((z : Int) != 3) = true := by rw [hz]; rfl
    have t4 : ((z : Int) != 4) = false := by rw [hz]; rfl
    clear hz
    go_enter Try.func19, Try.ntmps19
    go_wp2_with fail
    go_loopw [9, 10] (fun v i wr => ∃ (p k : Nat) (acc : List UInt8), p ≤ s.length ∧ i = .int .i64 (p : Int) ∧ v = .string ⟨acc.toArray⟩ ∧ acc.length = k * z ∧ acc.length ≤ N + 600 ∧ Hid (UnSt z n s k (s.drop p) acc) ∧ Hid (Below w.heap.size w wr)) (fun _ i _ => s.length - (intOf i).toNat)
    case atStart => exact ⟨0, 0, [], Nat.zero_le _, rfl, rfl, by simp, by simp, Lib.hid (UnSt.start z n s), Lib.hid (Below.refl _ _)⟩
    case round =>
      obtain ⟨p, k, acc, hp, rfl, rfl, hak, haN, hst, hbw⟩ := hrel
      by_cases hk : k < n
      · have hkz : k * z < N := by rw [HNN.out]; exact Nat.mul_lt_mul_of_pos_right hk (by omega)
        have t0 : decide ((acc.length : Int) < (N : Int)) = true := decide_eq_true (by omega)
        have t0n : decide (acc.length < N) = true := decide_eq_true (by omega)
        by_cases hps : s.length ≤ p
        · have t1 : decide ((s.length : Int) ≤ (p : Int)) = true := decide_eq_true (by omega)
          have t1n : decide (s.length ≤ p) = true := decide_eq_true (by omega)
          have hno : Hid (unpackT z n s = none) := Lib.hid (by
            have h9 := hst.out
            rw [List.drop_of_length_le hps] at h9
            exact h9.empty hk)
          clear hak hkz haN
          go_wp2_with fail
          go_ret3
          exact FN.out _ hno.out hbw.out
        · have t1 : decide ((s.length : Int) ≤ (p : Int)) = false := decide_eq_false (by omega)
          have t1n : decide (s.length ≤ p) = false := decide_eq_false (by omega)
          have hp2 : p < s.length := by omega
          obtain ⟨c, hc⟩ : ∃ c, c = s.getD p 0 := ⟨_, rfl⟩
          have hdc : s.drop p = c :: s.drop (p + 1) := by
            rw [hc, List.getD_eq_getElem?_getD, List.getElem?_eq_getElem hp2]
            exact List.drop_eq_getElem_cons hp2
          have hix := idx_str s p (p : Int) hp2 rfl
          rw [← hc] at hix
          have c8 := c.toNat_lt
          have wp1 : IntKind.i64.wrap ((p : Int) + 1) = (p : Int) + 1 := by rw [IntKind.wrap_i64]; omega
          have wc : IntKind.i64.wrap ((c.toNat : Nat) : Int) = (c.toNat : Int) := by rw [IntKind.wrap_i64]; omega
          have tmc : ((c.toNat : Nat) : Int).tmod 128 = ((c.toNat % 128 : Nat) : Int) := by rw [Int.tmod_eq_emod_of_nonneg (by omega)]; rfl
          have hst1 := hst.out
          rw [hdc] at hst1
          have hdl : (s.drop (p + 1)).length = s.length - (p + 1) := List.length_drop ..
          obtain ⟨x, hx⟩ : ∃ x, x = c.toNat := ⟨_, rfl⟩
          obtain ⟨y, hy⟩ : ∃ y, y = c.toNat % 128 := ⟨_, rfl⟩
          have hy8 : y < 128 := by omega
          rw [← hy, ← hx] at tmc
          rw [← hx] at hix wc
          have wy : IntKind.i64.wrap (y : Int) = (y : Int) := by rw [IntKind.wrap_i64]; omega
          have wy1 : IntKind.i64.wrap ((y : Int) + 1) = (y : Int) + 1 := by rw [IntKind.wrap_i64]; omega
          by_cases hc128 : 128 ≤ c.toNat
          · have t2 : decide ((128 : Int) ≤ (x : Int)) = true := decide_eq_true (by omega)
            have t2n : decide (128 ≤ x) = true := decide_eq_true (by omega)
            have wpz : IntKind.i64.wrap ((p : Int) + 1 + (z : Int)) = (p : Int) + 1 + (z : Int) := by rw [IntKind.wrap_i64]; omega
            by_cases hsh : s.length < p + 1 + z
            · have t3 : decide ((s.length : Int) < (p : Int) + 1 + (z : Int)) = true := decide_eq_true (by omega)
              have t3n : decide (s.length < p + 1 + z) = true := decide_eq_true (by omega)
              have hno : Hid (unpackT z n s = none) := Lib.hid (hst1.short hk hc128 (by omega))
              clear hak hkz haN hdc hst1 hdl hc hx hy hc128
              go_wp2_with fail
              go_ret3
              exact FN.out _ hno.out hbw.out
            · have t3 : decide ((s.length : Int) < (p : Int) + 1 + (z : Int)) = false := decide_eq_false (by omega)
              have t3n : decide (s.length < p + 1 + z) = false := decide_eq_false (by omega)
              have hnx := hst1.run hk hc128 (by omega)
              rw [List.drop_drop, ← hy] at hnx
              obtain ⟨T, hT⟩ : ∃ T, T = (s.drop (p + 1)).take z := ⟨_, rfl⟩
              have hTl : T.length = z := by rw [hT, List.length_take, hdl]; omega
              rw [← hT] at hnx
              have HNX := Lib.hid hnx
              have HS : ∀ W, (Instr.slice 9 (.string ⟨s.toArray⟩) (some (.int .i64 ((p : Int) + 1))) (some (.int .i64 ((p : Int) + 1 + (z : Int)))) none).run Try.prog W = .ok (.string ⟨T.toArray⟩) W := fun W => by
                rw [run_sl 9 s _ _ (p + 1) (p + 1 + z) (by simp) (by simp) (Nat.le_add_right _ _) (by omega) Try.underlying9 W]
                rw [show p + 1 + z - (p + 1) = z by omega, hT]
              have hyz : y * z ≤ 127 * z := Nat.mul_le_mul_right _ (by omega)
              have HBD := Lib.hid (⟨hak, hkz, haN, hyz⟩ : _ ∧ _ ∧ _ ∧ _)
              have hsh2 : p + 1 + z ≤ s.length := by omega
              clear hak hkz hdc hst1 hdl hc hx hy hc128 hnx hT hyz
              go_wp2_with fail
              obtain ⟨wo, hwo⟩ : ∃ wo : World, wo = wr := ⟨_, rfl⟩
              obtain rfl := hwo
              have HBW := hbw
              go_loopw [9, 13] (fun v i wr => ∃ j : Nat, j ≤ y + 1 ∧ i = .int .i64 (j : Int) ∧ v = .string ⟨(acc ++ (List.replicate j T).flatten).toArray⟩ ∧ Hid (Below w.heap.size w wr)) (fun _ i _ => y + 1 - (intOf i).toNat)
              case atStart => exact ⟨0, by omega, rfl, by simp, HBW⟩
              case round =>
                obtain ⟨j, hj, rfl, rfl, hbw2⟩ := hrel
                by_cases hjy : j < y + 1
                · have s0 : decide ((j : Int) < (y : Int) + 1) = true := decide_eq_true (by omega)
                  have s0n : decide (j < y + 1) = true := decide_eq_true (by omega)
                  have hjl : (acc ++ (List.replicate j T).flatten).length ≤ N + 2000 := by
                    have h5 : j * z ≤ 128 * z := Nat.mul_le_mul_right _ (by omega)
                    simp only [List.length_append, List.length_flatten, List.map_replicate, List.sum_replicate_nat, hTl]
                    omega
                  have hcat : ∀ W, (Op.stringOp .add ⟨(acc ++ (List.replicate j T).flatten).toArray⟩ ⟨T.toArray⟩).run Try.prog W = .ok (.string ⟨(acc ++ (List.replicate (j + 1) T).flatten).toArray⟩) W := fun W => by
                    rw [run_cat _ T (by omega) W, List.append_assoc]
                    rw [List.replicate_succ']
                    simp
                  have wj : IntKind.i64.wrap ((j : Int) + 1) = (j : Int) + 1 := by rw [IntKind.wrap_i64]; omega
                  generalize hA : acc ++ (List.replicate j T).flatten = A1 at *
                  generalize hA2 : acc ++ (List.replicate (j + 1) T).flatten = A2 at *
                  have HA2 := Lib.hid hA2
                  clear hA hA2
                  go_wp2_with fail
                  go_roundw
                  case rel => exact ⟨j + 1, by omega, by go_num, by rw [HA2.out], hbw2⟩
                  case measure => simp only [intOf]; omega
                · have s0 : decide ((j : Int) < (y : Int) + 1) = false := decide_eq_false (by omega)
                  have s0n : decide (j < y + 1) = false := decide_eq_false (by omega)
                  obtain rfl : j = y + 1 := by omega
                  obtain ⟨A1, hA⟩ : ∃ A1, A1 = acc ++ (List.replicate (y + 1) T).flatten := ⟨_, rfl⟩
                  have HX := HNX.out
                  rw [← hA] at HX ⊢
                  have HNX2 := Lib.hid HX
                  have hAl : A1.length = (k + (y + 1)) * z := by
                    rw [hA]
                    simp only [List.length_append, List.length_flatten, List.map_replicate, List.sum_replicate_nat, hTl]
                    rw [HBD.out.1, ← Nat.add_mul]
                  have hAm : A1.length ≤ N + 600 := by
                    have h5 : (y + 1) * z ≤ 128 * z := Nat.mul_le_mul_right _ (by omega)
                    have h6 := HBD.out.1
                    have h7 := HBD.out.2.1
                    rw [hAl, Nat.add_mul]
                    omega
                  clear hA HX
                  go_wp2_with fail
                  go_roundw
                  case rel => exact ⟨p + 1 + z, k + (y + 1), A1, hsh2, by go_num, rfl, hAl, hAm, by rw [show p + 1 + z = p + 1 + z from rfl]; exact HNX2, hbw2⟩
                  case measure => simp only [intOf]; omega
          · have t2 : decide ((128 : Int) ≤ (x : Int)) = false := decide_eq_false (by omega)
            have t2n : decide (128 ≤ x) = false := decide_eq_false (by omega)
            obtain ⟨G, hG⟩ : ∃ G, G = (y + 1) * z := ⟨_, rfl⟩
            have e5 : ((y : Int) + 1) * (z : Int) = (G : Int) := by rw [hG]; simp
            have hG9 : G ≤ 512 := by
              have h5 : (y + 1) * z ≤ 128 * z := Nat.mul_le_mul_right _ (by omega)
              omega
            have wG : IntKind.i64.wrap (G : Int) = (G : Int) := by rw [IntKind.wrap_i64]; omega
            have wpG : IntKind.i64.wrap ((p : Int) + 1 + (G : Int)) = (p : Int) + 1 + (G : Int) := by rw [IntKind.wrap_i64]; omega
            by_cases hsh : s.length < p + 1 + G
            · have t3 : decide ((s.length : Int) < (p : Int) + 1 + (G : Int)) = true := decide_eq_true (by omega)
              have t3n : decide (s.length < p + 1 + G) = true := decide_eq_true (by omega)
              have hno : Hid (unpackT z n s = none) := Lib.hid (hst1.short2 hk hc128 (by rw [← hy, ← hG]; omega))
              clear hak hkz haN hdc hst1 hdl hc hx hy hc128 hG hG9
              go_wp2_with fail
              go_ret3
              exact FN.out _ hno.out hbw.out
            · have t3 : decide ((s.length : Int) < (p : Int) + 1 + (G : Int)) = false := decide_eq_false (by omega)
              have t3n : decide (s.length < p + 1 + G) = false := decide_eq_false (by omega)
              have hnx := hst1.lit hk hc128 (by rw [← hy, ← hG]; omega)
              rw [List.drop_drop, ← hy, ← hG] at hnx
              obtain ⟨T, hT⟩ : ∃ T, T = (s.drop (p + 1)).take G := ⟨_, rfl⟩
              have hTl : T.length = G := by rw [hT, List.length_take, hdl]; omega
              rw [← hT] at hnx
              have HS : ∀ W, (Instr.slice 9 (.string ⟨s.toArray⟩) (some (.int .i64 ((p : Int) + 1))) (some (.int .i64 ((p : Int) + 1 + (G : Int)))) none).run Try.prog W = .ok (.string ⟨T.toArray⟩) W := fun W => by
                rw [run_sl 9 s _ _ (p + 1) (p + 1 + G) (by simp) (by simp) (Nat.le_add_right _ _) (by omega) Try.underlying9 W]
                rw [show p + 1 + G - (p + 1) = G by omega, hT]
              have hsh2 : p + 1 + G ≤ s.length := by omega
              obtain ⟨A1, hA⟩ : ∃ A1, A1 = acc ++ T := ⟨_, rfl⟩
              have hcat : ∀ W, (Op.stringOp .add ⟨acc.toArray⟩ ⟨T.toArray⟩).run Try.prog W = .ok (.string ⟨A1.toArray⟩) W := fun W => by
                rw [run_cat acc T (by omega) W, hA]
              have hAl : A1.length = (k + (y + 1)) * z := by
                rw [hA, List.length_append, hTl, hak, hG, ← Nat.add_mul]
              have hAm : A1.length ≤ N + 600 := by
                rw [hA, List.length_append, hTl]
                omega
              rw [← hA] at hnx
              have HNX := Lib.hid hnx
              clear hak hkz hdc hst1 hdl hc hx hy hc128 hnx hT hG hA
              go_wp2_with fail
              go_roundw
              case rel => exact ⟨p + 1 + G, k + (y + 1), A1, hsh2, by go_num, rfl, hAl, hAm, HNX, hbw⟩
              case measure => simp only [intOf]; omega
      · have hkz : N ≤ k * z := by rw [HNN.out]; exact Nat.mul_le_mul_right _ (by omega)
        have t0 : decide ((acc.length : Int) < (N : Int)) = false := decide_eq_false (by omega)
        have t0n : decide (acc.length < N) = false := decide_eq_false (by omega)
        by_cases hkn : k = n
        · have h5 : acc.length = N := by rw [hak, hkn, HNN.out]
          have t5 : decide ((N : Int) < (acc.length : Int)) = false := decide_eq_false (by omega)
          have t5n : decide (N < acc.length) = false := decide_eq_false (by omega)
          have h6 := hst.out
          rw [hkn] at h6
          have HDN := Lib.hid h6.done
          clear h6 h5 hkz hak haN hkn hk
          go_wp2_with fail
          go_ret3
          exact FY.out _ p acc hp HDN.out hbw.out
        · have h5 : N < acc.length := by
            have h7 : (n + 1) * z ≤ k * z := Nat.mul_le_mul_right _ (by omega)
            rw [Nat.succ_mul, ← HNN.out] at h7
            omega
          have t5 : decide ((N : Int) < (acc.length : Int)) = true := decide_eq_true (by omega)
          have t5n : decide (N < acc.length) = true := decide_eq_true (by omega)
          have hno := Lib.hid (hst.out.over (by omega))
          clear h5 hkz hak haN hkn hk
          go_wp2_with fail
          go_ret3
          exact FN.out _ hno.out hbw.out
theorem unref_any (s : List UInt8) (size many : Int) (w : World) (hl : s.length ≤ 1000000) : Calls Try.prog 19 #[.string ⟨s.toArray⟩, .int .i64 size, .int .i64 many] w (UnpRes (unR s size many) w) := by
  cases h : unOk size many with
  | false =>
    have e : unR s size many = ([], 0, 1) := by unfold unR; rw [h]; rfl
    rw [e]
    exact unref_no s size many w h
  | true =>
    unfold unOk at h
    rw [decide_eq_true_iff] at h
    obtain ⟨z, rfl⟩ : ∃ z : Nat, size = z := ⟨size.toNat, by omega⟩
    obtain ⟨n, rfl⟩ : ∃ n : Nat, many = n := ⟨many.toNat, by omega⟩
    exact unref_yes s z n w (by omega) (by omega) hl
end Go.Proofs.Ytfkkppagbhllgaa
