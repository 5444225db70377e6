/-
  THE STEPS OF tga.Put.
-/
import Derived.Test.YtfkkppagbhllgaaTgaWalkK
set_option linter.unusedVariables false
set_option linter.unusedSimpArgs false
set_option maxRecDepth 8000
namespace Go.Proofs.Ytfkkppagbhllgaa
open Go.RowKit

/-- The slice '.slice A n c' reads as the bytes l; its block lies below B. -/
structure Byts (w : World) (B : Nat) (A : Option Addr) (n : Nat) (l : List UInt8) : Prop where
  rd : Rd w B 1 A n (Lib.byteCells l)
  len : n ≤ 9223372036854775807
theorem Byts.length {w : World} {B n : Nat} {A : Option Addr} {l : List UInt8} (h : Byts w B A n l) : l.length = n := by have := h.rd.1; rw [bytes_len] at this; omega
theorem Byts.below {w w' : World} {B n : Nat} {A : Option Addr} {l : List UInt8} (h : Byts w B A n l) {b : Nat} (hb : Below b w w') (hB : B ≤ b) : Byts w' B A n l := ⟨h.rd.below hb hB, h.len⟩
theorem Byts.more {w : World} {B B' n : Nat} {A : Option Addr} {l : List UInt8} (h : Byts w B A n l) (hB : B ≤ B') : Byts w B' A n l := ⟨h.rd.more hB, h.len⟩
/-- a stretch of them, made a text -/
theorem Byts.text {w : World} {B n : Nat} {A : Option Addr} {l : List UInt8} (h : Byts w B A n l) (i k cap : Nat) (hk : 0 < k) (hi : i + k ≤ n) : ∃ ad, A = some ad ∧ ad.block < B ∧
    (convert 22 9 (.slice (some (ad.add i)) k cap)).run Try.prog w = .ok (.string ⟨((l.drop i).take k).toArray⟩) w := by
  obtain ⟨ad, e, hb, hc⟩ := h.rd.2 (by omega)
  have hl := h.length
  refine ⟨ad, e, hb, ?_⟩
  have hlen : ((l.drop i).take k).length = k := by rw [List.length_take, List.length_drop]; omega
  have := run_convert_bytes_back (P := Try.prog) w 22 9 5 (ad.add i) cap ((l.drop i).take k) Try.underlying22 Try.underlying5 Try.underlying9 fun j hj => by
    rw [addr_add_add]
    refine hc (i + j) _ ?_
    rw [hlen] at hj
    have hij : i + j < l.length := by omega
    simp [Lib.byteCells, List.getElem?_eq_getElem hij]
  rwa [hlen] at this
theorem put1_any (s : List UInt8) (w : World) : Calls Try.prog 27 #[.string ⟨s.toArray⟩] w (SR w s) := by
  unfold SR
  go_enter Try.func27, Try.ntmps27
  go_wp2_with fail
  go_ret
  exact ⟨rfl, Below.refl _ _⟩
theorem put2_any (g z : Nat) (s : List UInt8) (w : World) (hg : w.cell? ⟨g, 0, none⟩ = some (.int .i64 (z : Int))) (hz : z = 3 ∨ z = 4) (hl : s.length ≤ 1000000) (hm : s.length = manyT z s * z) :
    Calls Try.prog 28 #[.string ⟨s.toArray⟩, .pointer (some ⟨g, 0, none⟩)] w (SR w (packT z s)) := by
  have K := Lib.hid (fun W => packed_any z s W hz hl hm)
  unfold SR rowV at *
  clear hm
  go_enter Try.func28, Try.ntmps28
  go_wp2_with fail
  refine (K.out _).mono ?_
  clear K
  rintro e w1 ⟨rfl, hb1⟩
  have HB := Lib.hid hb1; clear hb1
  go_wp2_with fail
  go_ret
  exact ⟨rfl, HB.out⟩
/-- a row of another type stays where a builder writes -/
theorem own_others {w w' : World} {base b size n : Nat} {e : TypeId} {v : Value} {xs : List Value} (h : w.ownsRow base e size v n xs) (hk : Lib.OthersKept 5 (some b) w w') (hb : b < base) (he : e ≠ 5) : w'.ownsRow base e size v n xs := by
  refine ⟨h.1, ?_⟩
  rcases h.2 with h0 | ⟨g, cap, cur, hv, hg, hh, rest⟩
  · exact .inl h0
  · refine .inr ⟨g, cap, cur, hv, hg, ?_, rest⟩
    exact hk _ _ hh (fun e => by injection e with e; omega) (fun c fz e9 => by injection e9 with _ e9; exact he e9)
def putR (p q b : Int) (d : List UInt8) (packed top : Bool) : List UInt8 × Int := if isT p q b d.length then (putT p.toNat q.toNat (b / 8).toNat d packed top, 0) else ([], 1)
theorem put_no (p q b : Int) (A : Option Addr) (n c : Nat) (packed top : Bool) (w : World) (hn : n ≤ 9223372036854775807) (h : isT p q b n = false) :
    Calls Try.prog 12 #[imV p q b A n c, .bool packed, .bool top] w (SE w [] 1) := by
  have K := Lib.hid (fun W => is_any p q b A n c W hn)
  rw [h] at K
  have hbx := SlotN.new w [.int .i64 p, .int .i64 q, .int .i64 b, .slice A n c] #[.int .i64 p, .int .i64 q, .int .i64 b, .slice A n c] 24 rfl
  have hb : Below w.heap.size w (w.alloc (.cells #[.int .i64 p, .int .i64 q, .int .i64 b, .slice A n c] 24)) := (Below.refl _ _).alloc (Nat.le_refl _) _
  have c0 := hbx.c 0 _ rfl
  have c1 := hbx.c 1 _ rfl
  have c2 := hbx.c 2 _ rfl
  have c3 := hbx.c 3 _ rfl
  unfold imV SE at *
  clear h hbx
  go_enter Try.func12, Try.ntmps12
  go_wp2_with fail
  refine (K.out _).mono ?_
  clear K
  rintro e w1 ⟨rfl, hb1⟩
  have HB := Lib.hid (hb.trans (hb1.mono hb.size))
  clear hb1 c0 c1 c2 c3 hb
  go_wp2_with fail
  go_ret2
  exact ⟨rfl, HB.out⟩
theorem slice_bytes (ad : Addr) (n c i k : Nat) (a b : Int) (ha : a = (i : Int)) (hb : b = ((i + k : Nat) : Int)) (hk : 0 < k) (h : i + k ≤ c) (W : World) :
    (Instr.slice 22 (.slice (some ad) n c) (some (.int .i64 a)) (some (.int .i64 b)) none).run Try.prog W = .ok (.slice (some (ad.add i)) k (c - i)) W := by
  subst ha; subst hb
  rw [run_slice_lh W 22 (some ad) n c (by kernel_rfl) .i64 .i64 _ _ (by omega) (by omega) (by omega)]
  rw [show Try.prog.elem 22 = 5 from by kernel_rfl, Try.sizeOf5]
  simp only [Result.andThen, sliced]
  rw [if_neg (by omega)]
  simp
  omega
theorem putRow_len {z m : Nat} {t : List UInt8} (packed : Bool) (hz : z = 3 ∨ z = 4) (hm : t.length = m * z) (hm2 : m ≤ 256) : (putRow packed z t).length ≤ 1100 := by
  have h1 : m * z ≤ 256 * 4 := Nat.mul_le_mul hm2 (by omega)
  have hmt : manyT z t = m := by unfold manyT; rw [hm]; exact Nat.mul_div_cancel _ (by omega)
  unfold putRow
  cases packed
  · simp; omega
  · have := pack_len (z := z) (s := t) (by omega) (by rw [hmt]; exact hm)
    rw [hmt] at this
    simp; omega
/-- Put's memory -/
structure PutAt (w W : World) (S K : Nat) (p q z : Nat) (A : Option Addr) (n c : Nat) (acc : List UInt8) : Prop where
  x : SlotN W w.heap.size [.int .i64 (p : Int), .int .i64 (q : Int), .int .i64 ((8 * z : Nat) : Int), .slice A n c]
  s : SlotN W S [.int .i64 (z : Int)]
  b : Bld W K K acc
  below : Below w.heap.size w W
  l1 : w.heap.size < S
  l2 : S < K
theorem PutAt.grown {w W W' : World} {S K p q z n c : Nat} {A : Option Addr} {acc : List UInt8} (h : PutAt w W S K p q z A n c acc) (hb : Below W.heap.size W W') : PutAt w W' S K p q z A n c acc := by
  have := h.b.lt.1
  have := h.l1
  have := h.l2
  exact ⟨h.x.below hb (by omega), h.s.below hb (by omega), h.b.grown hb, h.below.trans (hb.mono h.below.size), h.l1, h.l2⟩
theorem PutAt.wrote {w W W' : World} {S K p q z n c : Nat} {A : Option Addr} {acc acc' : List UInt8} (h : PutAt w W S K p q z A n c acc) (hk : Wrote W W' K K acc') : PutAt w W' S K p q z A n c acc' := by
  have := h.l1
  have := h.l2
  exact ⟨h.x.below hk.below (by omega), h.s.below hk.below (by omega), hk.is, h.below.trans (hk.below.mono (by omega)), h.l1, h.l2⟩
set_option maxHeartbeats 1600000 in
theorem put_yes (p q z : Nat) (A : Option Addr) (n c : Nat) (d : List UInt8) (packed top : Bool) (w : World) (hI : Byts w w.heap.size A n d) (hnc : n ≤ c) (hc : c ≤ 9223372036854775807) (hok : (⟨p, q, z, d⟩ : Im).ok) :
    Calls Try.prog 12 #[imV p q ((8 * z : Nat) : Int) A n c, .bool packed, .bool top] w (SE w (putT p q z d packed top) 0) := by
  obtain ⟨hp1, hp2, hq1, hq2, hz, hd⟩ := id hok
  simp only at hp1 hp2 hq1 hq2 hz hd
  have hdn := hI.length
  have his : isT p q ((8 * z : Nat) : Int) n = true := by
    unfold isT
    have h1 := form_of hok
    simp only at h1
    rw [h1, ← hdn, hd]
    have e8 : (((8 * z : Nat) : Int)) / 8 = (z : Int) := by omega
    rw [e8]; simp
  have K := Lib.hid (fun W => is_any p q ((8 * z : Nat) : Int) A n c W hI.len)
  rw [his] at K
  have KH := Lib.hid (fun W => head_any p q z A n c packed top W hp2 hq2 hz)
  have KO := Lib.hid (fun W => order_any q top W hq1 hq2)
  have hbx := SlotN.new w [.int .i64 (p : Int), .int .i64 (q : Int), .int .i64 ((8 * z : Nat) : Int), .slice A n c] #[.int .i64 (p : Int), .int .i64 (q : Int), .int .i64 ((8 * z : Nat) : Int), .slice A n c] 24 rfl
  have hb : Below w.heap.size w (w.alloc (.cells #[.int .i64 (p : Int), .int .i64 (q : Int), .int .i64 ((8 * z : Nat) : Int), .slice A n c] 24)) := (Below.refl _ _).alloc (Nat.le_refl _) _
  have hz1 : w.heap.size < (w.alloc (.cells #[.int .i64 (p : Int), .int .i64 (q : Int), .int .i64 ((8 * z : Nat) : Int), .slice A n c] 24)).heap.size := by simp
  have c0 := hbx.c 0 _ rfl
  have c1 := hbx.c 1 _ rfl
  have c2 := hbx.c 2 _ rfl
  have c3 := hbx.c 3 _ rfl
  have td : (((8 * z : Nat) : Int)).tdiv 8 = (z : Int) := by rw [Int.tdiv_eq_ediv_of_nonneg (by omega)]; omega
  obtain ⟨pz, hpz⟩ : ∃ pz, pz = p * z := ⟨_, rfl⟩
  have epz : (p : Int) * (z : Int) = (pz : Int) := by rw [hpz]; simp
  have hpz2 : pz ≤ 1024 := by rw [hpz]; exact Nat.le_trans (Nat.mul_le_mul hp2 (show z ≤ 4 by omega)) (by decide)
  have HPZ := Lib.hid hpz; clear hpz
  have hzz : ((8 * z : Nat) : Int) = 24 ∨ ((8 * z : Nat) : Int) = 32 := by omega
  unfold imV SE at *
  clear his
  generalize hz8 : ((8 * z : Nat) : Int) = zz at *
  have HZ8 := Lib.hid hz8; clear hz8
  cases packed with
  | false =>
    go_enter Try.func12, Try.ntmps12
    go_wp2_with fail
    generalize w.alloc (.cells #[.int .i64 (p : Int), .int .i64 (q : Int), .int .i64 zz, .slice A n c] 24) = W0 at *
    refine (K.out _).mono ?_
    clear K
    rintro e w1 ⟨rfl, hb1⟩
    have hx1 := hbx.below hb1 hz1
    have hB1 := hb.trans (hb1.mono hb.size)
    have hlt1 : w.heap.size < w1.heap.size := Nat.lt_of_lt_of_le hz1 hb1.size
    clear c0 c1 c2 c3 hb1 hbx hb hz1
    have c0 := hx1.c 0 _ rfl
    have c1 := hx1.c 1 _ rfl
    have c2 := hx1.c 2 _ rfl
    have c3 := hx1.c 3 _ rfl
    have s1 := SlotN.new w1 [.int .i64 (z : Int)] #[.int .i64 (z : Int)] 3 rfl
    have e1 : Below w1.heap.size w1 (w1.alloc (.cells #[.int .i64 (z : Int)] 3)) := (Below.refl _ _).alloc (Nat.le_refl _) _
    have hB2 := Bld.new (w1.alloc (.cells #[.int .i64 (z : Int)] 3)) (w1.heap.size + 1) (w1.heap.size + 1) (by simp) (Nat.le_refl _)
    have e2 : Below (w1.heap.size + 1) (w1.alloc (.cells #[.int .i64 (z : Int)] 3)) ((w1.alloc (.cells #[.int .i64 (z : Int)] 3)).alloc (.cells #[.pointer none, .slice none 0 0] 52)) := (Below.refl _ _).alloc (by simp) _
    have hP : PutAt w ((w1.alloc (.cells #[.int .i64 (z : Int)] 3)).alloc (.cells #[.pointer none, .slice none 0 0] 52)) w1.heap.size (w1.heap.size + 1) p q z A n c [] :=
      ⟨by rw [HZ8.out]; exact (hx1.below e1 hlt1).below e2 (by omega), s1.below e2 (by omega), hB2, (hB1.trans (e1.mono (by omega))).trans (e2.mono (by omega)), hlt1, by omega⟩
    have HP := Lib.hid hP
    clear s1 e1 hB2 e2 hP hx1 hB1
    go_wp2_with fail
    generalize (w1.alloc (.cells #[.int .i64 (z : Int)] 3)).alloc (.cells #[.pointer none, .slice none 0 0] 52) = V1 at *
    clear c0 c1 c2 c3
    refine (KH.out _).mono ?_
    clear KH
    rintro e V2 ⟨rfl, hb2⟩
    have HP := Lib.hid (HP.out.grown hb2)
    have KW := Lib.hid (wstr_any (w1.heap.size + 1) (w1.heap.size + 1) [] (headT p q z false top) V2 HP.out.b (by simp [headT_len]) (Nat.le_of_lt HP.out.b.lt.1))
    clear hb2
    go_wp2_with fail
    refine KW.out.mono ?_
    clear KW
    rintro e V3 ⟨rfl, hw3⟩
    have HP := Lib.hid (HP.out.wrote hw3)
    clear hw3
    have HX := Lib.hid HP.out.x
    rw [HZ8.out] at HX
    have c0 := HX.out.c 0 _ rfl
    have c1 := HX.out.c 1 _ rfl
    have c3 := HX.out.c 3 _ rfl
    have cs := HP.out.s.c 0 _ rfl
    clear HX
    go_wp2_with fail
    refine (KO.out _).mono ?_
    clear KO
    rintro e V4 ⟨Ao, co, rfl, hro, hb4⟩
    have hKg : w1.heap.size + 1 < V3.heap.size := HP.out.b.lt.1
    have HP := Lib.hid (HP.out.grown hb4)
    obtain ⟨g, rfl, hg1, hg2, hg3, _⟩ := own_cells hro (by omega)
    have HRO := Lib.hid hro
    clear hro hb4 c0 c1 c3 cs
    go_wp2_with fail
    go_loopw [36] (fun i wr => ∃ k : Nat, k ≤ q ∧ i = .int .i64 (k : Int) ∧ Hid (PutAt w wr w1.heap.size (w1.heap.size + 1) p q z A n c (headT p q z false top ++ (List.range k).flatMap fun i => putRow false z (turnedT z (rowT p z d (ordT q top i))))) ∧ Hid (wr.ownsRow V3.heap.size 3 1 (.slice (some ⟨g, 0, none⟩) q co) q (cellsI (ordL q top))) ∧ Hid ((headT p q z false top ++ (List.range k).flatMap fun i => putRow false z (turnedT z (rowT p z d (ordT q top i)))).length ≤ 18 + k * 1100)) (fun i _ => q - (intOf i).toNat)
    case atStart => exact ⟨0, by omega, rfl, Lib.hid (by simpa using HP.out), HRO, Lib.hid (by simp [headT_len])⟩
    case round =>
      clear HP HRO
      obtain ⟨k, hk, rfl, HP, HRO, HAL⟩ := hrel
      have HX := Lib.hid HP.out.x
      rw [HZ8.out] at HX
      have c3 := HX.out.c 3 _ rfl
      have cs := HP.out.s.c 0 _ rfl
      clear HX
      by_cases hlt : k < q
      · have t0 : decide ((k : Int) < (q : Int)) = true := decide_eq_true (by omega)
        have k0 : (0 : Int) ≤ (k : Int) := by omega
        have k1 : (k : Int) < (q : Int) := by omega
        obtain ⟨y, hy⟩ : ∃ y, y = ordT q top k := ⟨_, rfl⟩
        have hyq : y < q := by rw [hy]; exact ordT_lt top hlt
        have a0 : (⟨g, 0, none⟩ : Addr).add k = ⟨g, k, none⟩ := addr_lit _ _
        have cy : wr.cell? ⟨g, k, none⟩ = some (.int .i64 (y : Int)) := by
          have := HRO.out.cells (g := g) rfl k (.int .i64 (y : Int)) (by rw [cellsI_get]; unfold ordL; rw [List.getElem?_map, List.getElem?_range hlt, hy]; rfl)
          rwa [a0] at this
        have hnq : n = pz * q := by rw [← hdn, hd, HPZ.out, Nat.mul_right_comm]
        have hi1 : pz * y + pz ≤ n := by rw [hnq, ← Nat.mul_succ]; exact Nat.mul_le_mul_left _ hyq
        have hn9 : n ≤ 262144 := by rw [hnq]; exact Nat.le_trans (Nat.mul_le_mul hpz2 hq2) (by decide)
        have HY := Lib.hid hy; clear hy
        have HNQ := Lib.hid hnq; clear hnq
        obtain ⟨i0, hi0⟩ : ∃ i0, i0 = pz * y := ⟨_, rfl⟩
        have ey1 : (pz : Int) * (y : Int) = (i0 : Int) := by rw [hi0]; simp
        have ey2 : (pz : Int) * ((y : Int) + 1) = (i0 : Int) + (pz : Int) := by rw [Int.mul_add, ey1]; simp
        rw [← hi0] at hi1
        have HI0 := Lib.hid hi0; clear hi0
        have hpz0 : 0 < pz := by rw [HPZ.out]; exact Nat.mul_pos (by omega) (by omega)
        obtain ⟨ad, rfl, had, _⟩ := (hI.below HP.out.below (Nat.le_refl _)).text i0 pz (c - i0) hpz0 hi1
        obtain ⟨X, hX⟩ : ∃ X, X = (d.drop i0).take pz := ⟨_, rfl⟩
        have hXl : X.length = p * z := by rw [hX, List.length_take, List.length_drop, hdn, ← HPZ.out]; omega
        have HCV : Hid (∀ W', Below w.heap.size w W' → (convert 22 9 (.slice (some (ad.add i0)) pz (c - i0))).run Try.prog W' = .ok (.string ⟨X.toArray⟩) W') := Lib.hid fun W' hW' => by
          obtain ⟨ad', e, _, h⟩ := (hI.below hW' (Nat.le_refl _)).text i0 pz (c - i0) hpz0 hi1
          injection e with e; subst e
          rw [hX]; exact h
        have HXX : Hid (X = rowT p z d (ordT q top k)) := Lib.hid (by rw [hX, HI0.out, HPZ.out, HY.out]; rfl)
        have KT := Lib.hid (fun W => turned_any z p X W hz (by rw [hXl, ← HPZ.out]; omega) hXl hp1)
        have hTl : (turnedT z X).length = p * z := by rw [turnedT_len]; exact hXl
        have HRL : Hid ((putRow false z (turnedT z X)).length ≤ 1100) := Lib.hid (putRow_len false hz hTl hp2)
        have HSL := fun W => slice_bytes ad n c i0 pz (i0 : Int) ((i0 : Int) + (pz : Int)) rfl (by simp) hpz0 (by omega) W
        have hal : (headT p q z false top ++ (List.range k).flatMap fun i => putRow false z (turnedT z (rowT p z d (ordT q top i)))).length ≤ 300000 := by have := HAL.out; omega
        have HACC : Hid ((headT p q z false top ++ (List.range k).flatMap fun i => putRow false z (turnedT z (rowT p z d (ordT q top i)))) ++ putRow false z (turnedT z X) = headT p q z false top ++ (List.range (k + 1)).flatMap fun i => putRow false z (turnedT z (rowT p z d (ordT q top i)))) := Lib.hid (by
          rw [List.range_succ, List.flatMap_append, HXX.out]; simp)
        have HAL2 : Hid (((headT p q z false top ++ (List.range k).flatMap fun i => putRow false z (turnedT z (rowT p z d (ordT q top i)))) ++ putRow false z (turnedT z X)).length ≤ 18 + (k + 1) * 1100) := Lib.hid (by rw [List.length_append]; have := HRL.out; have := HAL.out; omega)
        rw [HACC.out] at HAL2
        clear HAL
        generalize (headT p q z false top ++ (List.range k).flatMap fun i => putRow false z (turnedT z (rowT p z d (ordT q top i)))) = acc at *
        skip
        have HTL := Lib.hid hTl
        have hci : ¬ c = i0 := by omega
        have e9 : ((i0 : Int) + (pz : Int)).toNat - i0 = pz := by omega
        have b0 : (0 : Int) ≤ (i0 : Int) := by omega
        have b1 : (i0 : Int) ≤ (i0 : Int) + (pz : Int) := by omega
        have b2 : (i0 : Int) + (pz : Int) ≤ (c : Int) := by omega
        have w1' : IntKind.i64.wrap (i0 : Int) = (i0 : Int) := by rw [IntKind.wrap_i64]; omega
        have w2' : IntKind.i64.wrap ((y : Int) + 1) = (y : Int) + 1 := by rw [IntKind.wrap_i64]; omega
        have w3' : IntKind.i64.wrap ((i0 : Int) + (pz : Int)) = (i0 : Int) + (pz : Int) := by rw [IntKind.wrap_i64]; omega
        clear HSL
        have cv0 := HCV.out _ HP.out.below
        have HPX := HP
        have HRX := HRO
        have HM1 : Hid (manyT z (turnedT z X) = p) := Lib.hid (by unfold manyT; rw [hTl]; exact Nat.mul_div_cancel _ (by omega))
        have HTM : Hid ((turnedT z X).length = manyT z (turnedT z X) * z) := Lib.hid (by rw [HM1.out, hTl])
        have HPL : Hid (p * z ≤ 1024) := Lib.hid (by rw [← HPZ.out]; exact hpz2)
        clear hXl hX hTl had
        go_wp2_with fail
        go_region_held3 (fun w' => w'.cell? ⟨w.heap.size, 3, none⟩ = some (.slice (some ad) n c) ∧ w'.cell? ⟨w1.heap.size, 0, none⟩ = some (.int .i64 (z : Int)) ∧ (convert 22 9 (.slice (some (ad.add i0)) pz (c - i0))).run Try.prog w' = .ok (.string ⟨X.toArray⟩) w')
          (refine ⟨?_, ?_, ?_⟩ <;> (first | with_reducible assumption | exact HPX.out.x.c 3 _ rfl | exact HPX.out.s.c 0 _ rfl | exact HCV.out _ HPX.out.below.drew | exact HCV.out _ HPX.out.below))
          (first
            | (go_at_call 33; refine (KT.out _).mono ?_; clear KT; rintro e wx ⟨rfl, hbx⟩; have HPX := Lib.hid (HPX.out.grown ((Below.refl _ wr).drew.trans (hbx.mono (by simp)))); have HRX := Lib.hid (own_below HRX.out ((Below.refl _ wr).drew.trans (hbx.mono (by simp))) (Nat.le_refl _)))
            | (go_at_call 27; refine (put1_any _ _).mono ?_; rintro e wy ⟨rfl, hby⟩; have HPX := Lib.hid (HPX.out.grown hby); have HRX := Lib.hid (own_below HRX.out hby (Nat.le_refl _)))
            | (go_at_call 30; refine (wstr_any (w1.heap.size + 1) (w1.heap.size + 1) acc (putRow false z (turnedT z X)) _ HPX.out.b (by have := HRL.out; omega) (by have := HPX.out.b.lt.1; omega)).mono ?_; rintro e wz ⟨rfl, hwz⟩; have HPX := Lib.hid (HPX.out.wrote hwz); have HRX := Lib.hid (own_others HRX.out hwz.others hKg (by decide))))
        rw [HACC.out] at HPX
        go_wp2_with fail
        go_roundw
        case rel => exact ⟨k + 1, by omega, by go_num, HPX, HRX, HAL2⟩
        case measure => simp only [intOf]; omega
      · have t0 : decide ((k : Int) < (q : Int)) = false := decide_eq_false (by omega)
        have hkq : k = q := by omega
        subst hkq
        have KW := Lib.hid (wstr_any (w1.heap.size + 1) (w1.heap.size + 1) _ footT wr HP.out.b (by have := HAL.out; simp [footT]; simp at this; omega) (Nat.le_of_lt HP.out.b.lt.1))
        have HF : Hid ((headT p k z false top ++ (List.range k).flatMap fun i => putRow false z (turnedT z (rowT p z d (ordT k top i)))) ++ footT = putT p k z d false top) := Lib.hid rfl
        have HRES : Hid (∀ w', Below w.heap.size w w' → SE w (putT p k z d false top) 0 (.returned (.tuple #[.string ⟨(putT p k z d false top).toArray⟩, .int .i64 0])) w') := Lib.hid fun w' hb => ⟨rfl, hb⟩
        rw [HF.out] at KW
        unfold footT at KW
        go_wp2_with fail
        refine KW.out.mono ?_
        clear KW
        rintro e w5 ⟨rfl, hw5⟩
        have HP := Lib.hid (HP.out.wrote hw5)
        clear hw5
        have KT := Lib.hid (btext_any (w1.heap.size + 1) (w1.heap.size + 1) _ w5 HP.out.b (Nat.le_of_lt HP.out.b.lt.1))
        go_wp2_with fail
        refine KT.out.mono ?_
        clear KT
        rintro e w6 ⟨rfl, hw6⟩
        have HP := Lib.hid (HP.out.wrote hw6)
        clear hw6
        go_wp2_with fail
        go_ret2
        exact ⟨rfl, HP.out.below⟩
  | true =>
    have hmf := makes_func
    go_enter Try.func12, Try.ntmps12
    go_wp2_with fail
    generalize w.alloc (.cells #[.int .i64 (p : Int), .int .i64 (q : Int), .int .i64 zz, .slice A n c] 24) = W0 at *
    refine (K.out _).mono ?_
    clear K
    rintro e w1 ⟨rfl, hb1⟩
    have hx1 := hbx.below hb1 hz1
    have hB1 := hb.trans (hb1.mono hb.size)
    have hlt1 : w.heap.size < w1.heap.size := Nat.lt_of_lt_of_le hz1 hb1.size
    clear c0 c1 c2 c3 hb1 hbx hb hz1
    have c0 := hx1.c 0 _ rfl
    have c1 := hx1.c 1 _ rfl
    have c2 := hx1.c 2 _ rfl
    have c3 := hx1.c 3 _ rfl
    have s1 := SlotN.new w1 [.int .i64 (z : Int)] #[.int .i64 (z : Int)] 3 rfl
    have e1 : Below w1.heap.size w1 (w1.alloc (.cells #[.int .i64 (z : Int)] 3)) := (Below.refl _ _).alloc (Nat.le_refl _) _
    have hB2 := Bld.new (w1.alloc (.cells #[.int .i64 (z : Int)] 3)) (w1.heap.size + 1) (w1.heap.size + 1) (by simp) (Nat.le_refl _)
    have e2 : Below (w1.heap.size + 1) (w1.alloc (.cells #[.int .i64 (z : Int)] 3)) ((w1.alloc (.cells #[.int .i64 (z : Int)] 3)).alloc (.cells #[.pointer none, .slice none 0 0] 52)) := (Below.refl _ _).alloc (by simp) _
    have hP : PutAt w ((w1.alloc (.cells #[.int .i64 (z : Int)] 3)).alloc (.cells #[.pointer none, .slice none 0 0] 52)) w1.heap.size (w1.heap.size + 1) p q z A n c [] :=
      ⟨by rw [HZ8.out]; exact (hx1.below e1 hlt1).below e2 (by omega), s1.below e2 (by omega), hB2, (hB1.trans (e1.mono (by omega))).trans (e2.mono (by omega)), hlt1, by omega⟩
    have HP := Lib.hid hP
    clear s1 e1 hB2 e2 hP hx1 hB1
    go_wp2_with fail
    generalize (w1.alloc (.cells #[.int .i64 (z : Int)] 3)).alloc (.cells #[.pointer none, .slice none 0 0] 52) = V1 at *
    clear c0 c1 c2 c3
    refine (KH.out _).mono ?_
    clear KH
    rintro e V2 ⟨rfl, hb2⟩
    have HP := Lib.hid (HP.out.grown hb2)
    have KW := Lib.hid (wstr_any (w1.heap.size + 1) (w1.heap.size + 1) [] (headT p q z true top) V2 HP.out.b (by simp [headT_len]) (Nat.le_of_lt HP.out.b.lt.1))
    clear hb2
    go_wp2_with fail
    refine KW.out.mono ?_
    clear KW
    rintro e V3 ⟨rfl, hw3⟩
    have HP := Lib.hid (HP.out.wrote hw3)
    clear hw3
    have HX := Lib.hid HP.out.x
    rw [HZ8.out] at HX
    have c0 := HX.out.c 0 _ rfl
    have c1 := HX.out.c 1 _ rfl
    have c3 := HX.out.c 3 _ rfl
    have cs := HP.out.s.c 0 _ rfl
    clear HX
    go_wp2_with fail
    refine (KO.out _).mono ?_
    clear KO
    rintro e V4 ⟨Ao, co, rfl, hro, hb4⟩
    have hKg : w1.heap.size + 1 < V3.heap.size := HP.out.b.lt.1
    have HP := Lib.hid (HP.out.grown hb4)
    obtain ⟨g, rfl, hg1, hg2, hg3, _⟩ := own_cells hro (by omega)
    have HRO := Lib.hid hro
    clear hro hb4 c0 c1 c3 cs
    go_wp2_with fail
    go_loopw [36] (fun i wr => ∃ k : Nat, k ≤ q ∧ i = .int .i64 (k : Int) ∧ Hid (PutAt w wr w1.heap.size (w1.heap.size + 1) p q z A n c (headT p q z true top ++ (List.range k).flatMap fun i => putRow true z (turnedT z (rowT p z d (ordT q top i))))) ∧ Hid (wr.ownsRow V3.heap.size 3 1 (.slice (some ⟨g, 0, none⟩) q co) q (cellsI (ordL q top))) ∧ Hid ((headT p q z true top ++ (List.range k).flatMap fun i => putRow true z (turnedT z (rowT p z d (ordT q top i)))).length ≤ 18 + k * 1100)) (fun i _ => q - (intOf i).toNat)
    case atStart => exact ⟨0, by omega, rfl, Lib.hid (by simpa using HP.out), HRO, Lib.hid (by simp [headT_len])⟩
    case round =>
      clear HP HRO
      obtain ⟨k, hk, rfl, HP, HRO, HAL⟩ := hrel
      have HX := Lib.hid HP.out.x
      rw [HZ8.out] at HX
      have c3 := HX.out.c 3 _ rfl
      have cs := HP.out.s.c 0 _ rfl
      clear HX
      by_cases hlt : k < q
      · have t0 : decide ((k : Int) < (q : Int)) = true := decide_eq_true (by omega)
        have k0 : (0 : Int) ≤ (k : Int) := by omega
        have k1 : (k : Int) < (q : Int) := by omega
        obtain ⟨y, hy⟩ : ∃ y, y = ordT q top k := ⟨_, rfl⟩
        have hyq : y < q := by rw [hy]; exact ordT_lt top hlt
        have a0 : (⟨g, 0, none⟩ : Addr).add k = ⟨g, k, none⟩ := addr_lit _ _
        have cy : wr.cell? ⟨g, k, none⟩ = some (.int .i64 (y : Int)) := by
          have := HRO.out.cells (g := g) rfl k (.int .i64 (y : Int)) (by rw [cellsI_get]; unfold ordL; rw [List.getElem?_map, List.getElem?_range hlt, hy]; rfl)
          rwa [a0] at this
        have hnq : n = pz * q := by rw [← hdn, hd, HPZ.out, Nat.mul_right_comm]
        have hi1 : pz * y + pz ≤ n := by rw [hnq, ← Nat.mul_succ]; exact Nat.mul_le_mul_left _ hyq
        have hn9 : n ≤ 262144 := by rw [hnq]; exact Nat.le_trans (Nat.mul_le_mul hpz2 hq2) (by decide)
        have HY := Lib.hid hy; clear hy
        have HNQ := Lib.hid hnq; clear hnq
        obtain ⟨i0, hi0⟩ : ∃ i0, i0 = pz * y := ⟨_, rfl⟩
        have ey1 : (pz : Int) * (y : Int) = (i0 : Int) := by rw [hi0]; simp
        have ey2 : (pz : Int) * ((y : Int) + 1) = (i0 : Int) + (pz : Int) := by rw [Int.mul_add, ey1]; simp
        rw [← hi0] at hi1
        have HI0 := Lib.hid hi0; clear hi0
        have hpz0 : 0 < pz := by rw [HPZ.out]; exact Nat.mul_pos (by omega) (by omega)
        obtain ⟨ad, rfl, had, _⟩ := (hI.below HP.out.below (Nat.le_refl _)).text i0 pz (c - i0) hpz0 hi1
        obtain ⟨X, hX⟩ : ∃ X, X = (d.drop i0).take pz := ⟨_, rfl⟩
        have hXl : X.length = p * z := by rw [hX, List.length_take, List.length_drop, hdn, ← HPZ.out]; omega
        have HCV : Hid (∀ W', Below w.heap.size w W' → (convert 22 9 (.slice (some (ad.add i0)) pz (c - i0))).run Try.prog W' = .ok (.string ⟨X.toArray⟩) W') := Lib.hid fun W' hW' => by
          obtain ⟨ad', e, _, h⟩ := (hI.below hW' (Nat.le_refl _)).text i0 pz (c - i0) hpz0 hi1
          injection e with e; subst e
          rw [hX]; exact h
        have HXX : Hid (X = rowT p z d (ordT q top k)) := Lib.hid (by rw [hX, HI0.out, HPZ.out, HY.out]; rfl)
        have KT := Lib.hid (fun W => turned_any z p X W hz (by rw [hXl, ← HPZ.out]; omega) hXl hp1)
        have hTl : (turnedT z X).length = p * z := by rw [turnedT_len]; exact hXl
        have HRL : Hid ((putRow true z (turnedT z X)).length ≤ 1100) := Lib.hid (putRow_len true hz hTl hp2)
        have HSL := fun W => slice_bytes ad n c i0 pz (i0 : Int) ((i0 : Int) + (pz : Int)) rfl (by simp) hpz0 (by omega) W
        have hal : (headT p q z true top ++ (List.range k).flatMap fun i => putRow true z (turnedT z (rowT p z d (ordT q top i)))).length ≤ 300000 := by have := HAL.out; omega
        have HACC : Hid ((headT p q z true top ++ (List.range k).flatMap fun i => putRow true z (turnedT z (rowT p z d (ordT q top i)))) ++ putRow true z (turnedT z X) = headT p q z true top ++ (List.range (k + 1)).flatMap fun i => putRow true z (turnedT z (rowT p z d (ordT q top i)))) := Lib.hid (by
          rw [List.range_succ, List.flatMap_append, HXX.out]; simp)
        have HAL2 : Hid (((headT p q z true top ++ (List.range k).flatMap fun i => putRow true z (turnedT z (rowT p z d (ordT q top i)))) ++ putRow true z (turnedT z X)).length ≤ 18 + (k + 1) * 1100) := Lib.hid (by rw [List.length_append]; have := HRL.out; have := HAL.out; omega)
        rw [HACC.out] at HAL2
        clear HAL
        generalize (headT p q z true top ++ (List.range k).flatMap fun i => putRow true z (turnedT z (rowT p z d (ordT q top i)))) = acc at *
        skip
        have HTL := Lib.hid hTl
        have hci : ¬ c = i0 := by omega
        have e9 : ((i0 : Int) + (pz : Int)).toNat - i0 = pz := by omega
        have b0 : (0 : Int) ≤ (i0 : Int) := by omega
        have b1 : (i0 : Int) ≤ (i0 : Int) + (pz : Int) := by omega
        have b2 : (i0 : Int) + (pz : Int) ≤ (c : Int) := by omega
        have w1' : IntKind.i64.wrap (i0 : Int) = (i0 : Int) := by rw [IntKind.wrap_i64]; omega
        have w2' : IntKind.i64.wrap ((y : Int) + 1) = (y : Int) + 1 := by rw [IntKind.wrap_i64]; omega
        have w3' : IntKind.i64.wrap ((i0 : Int) + (pz : Int)) = (i0 : Int) + (pz : Int) := by rw [IntKind.wrap_i64]; omega
        clear HSL
        have cv0 := HCV.out _ HP.out.below
        have HPX := HP
        have HRX := HRO
        have HM1 : Hid (manyT z (turnedT z X) = p) := Lib.hid (by unfold manyT; rw [hTl]; exact Nat.mul_div_cancel _ (by omega))
        have HTM : Hid ((turnedT z X).length = manyT z (turnedT z X) * z) := Lib.hid (by rw [HM1.out, hTl])
        have HPL : Hid (p * z ≤ 1024) := Lib.hid (by rw [← HPZ.out]; exact hpz2)
        clear hXl hX hTl had
        go_wp2_with fail
        go_region_held3 (fun w' => w'.cell? ⟨w.heap.size, 3, none⟩ = some (.slice (some ad) n c) ∧ w'.cell? ⟨w1.heap.size, 0, none⟩ = some (.int .i64 (z : Int)) ∧ (convert 22 9 (.slice (some (ad.add i0)) pz (c - i0))).run Try.prog w' = .ok (.string ⟨X.toArray⟩) w')
          (refine ⟨?_, ?_, ?_⟩ <;> (first | with_reducible assumption | exact HPX.out.x.c 3 _ rfl | exact HPX.out.s.c 0 _ rfl | exact HCV.out _ HPX.out.below.drew | exact HCV.out _ HPX.out.below))
          (first
            | (go_at_call 33; refine (KT.out _).mono ?_; clear KT; rintro e wx ⟨rfl, hbx⟩; have HPX := Lib.hid (HPX.out.grown ((Below.refl _ wr).drew.trans (hbx.mono (by simp)))); have HRX := Lib.hid (own_below HRX.out ((Below.refl _ wr).drew.trans (hbx.mono (by simp))) (Nat.le_refl _)))
            | (go_at_call 28; refine (put2_any w1.heap.size z (turnedT z X) _ (HPX.out.s.c 0 _ rfl) hz (by rw [HTL.out]; exact Nat.le_trans HPL.out (by decide)) HTM.out).mono ?_; rintro e wy ⟨rfl, hby⟩; have HPX := Lib.hid (HPX.out.grown hby); have HRX := Lib.hid (own_below HRX.out hby (Nat.le_refl _)))
            | (go_at_call 30; refine (wstr_any (w1.heap.size + 1) (w1.heap.size + 1) acc (putRow true z (turnedT z X)) _ HPX.out.b (by have := HRL.out; omega) (by have := HPX.out.b.lt.1; omega)).mono ?_; rintro e wz ⟨rfl, hwz⟩; have HPX := Lib.hid (HPX.out.wrote hwz); have HRX := Lib.hid (own_others HRX.out hwz.others hKg (by decide))))
        rw [HACC.out] at HPX
        go_wp2_with fail
        go_roundw
        case rel => exact ⟨k + 1, by omega, by go_num, HPX, HRX, HAL2⟩
        case measure => simp only [intOf]; omega
      · have t0 : decide ((k : Int) < (q : Int)) = false := decide_eq_false (by omega)
        have hkq : k = q := by omega
        subst hkq
        have KW := Lib.hid (wstr_any (w1.heap.size + 1) (w1.heap.size + 1) _ footT wr HP.out.b (by have := HAL.out; simp [footT]; simp at this; omega) (Nat.le_of_lt HP.out.b.lt.1))
        have HF : Hid ((headT p k z true top ++ (List.range k).flatMap fun i => putRow true z (turnedT z (rowT p z d (ordT k top i)))) ++ footT = putT p k z d true top) := Lib.hid rfl
        have HRES : Hid (∀ w', Below w.heap.size w w' → SE w (putT p k z d true top) 0 (.returned (.tuple #[.string ⟨(putT p k z d true top).toArray⟩, .int .i64 0])) w') := Lib.hid fun w' hb => ⟨rfl, hb⟩
        rw [HF.out] at KW
        unfold footT at KW
        go_wp2_with fail
        refine KW.out.mono ?_
        clear KW
        rintro e w5 ⟨rfl, hw5⟩
        have HP := Lib.hid (HP.out.wrote hw5)
        clear hw5
        have KT := Lib.hid (btext_any (w1.heap.size + 1) (w1.heap.size + 1) _ w5 HP.out.b (Nat.le_of_lt HP.out.b.lt.1))
        go_wp2_with fail
        refine KT.out.mono ?_
        clear KT
        rintro e w6 ⟨rfl, hw6⟩
        have HP := Lib.hid (HP.out.wrote hw6)
        clear hw6
        go_wp2_with fail
        go_ret2
        exact ⟨rfl, HP.out.below⟩
theorem put_any (p q b : Int) (A : Option Addr) (n c : Nat) (d : List UInt8) (packed top : Bool) (w : World) (hI : Byts w w.heap.size A n d) (hnc : n ≤ c) (hc : c ≤ 9223372036854775807) :
    Calls Try.prog 12 #[imV p q b A n c, .bool packed, .bool top] w (SE w (putR p q b d packed top).1 (putR p q b d packed top).2) := by
  unfold putR
  rw [hI.length]
  cases h : isT p q b n with
  | false => exact put_no p q b A n c packed top w hI.len h
  | true =>
    unfold isT formT at h
    simp only [Bool.and_eq_true, decide_eq_true_eq] at h
    obtain ⟨⟨g1, g2, g3, g4, g5⟩, g6⟩ := h
    obtain ⟨p, rfl⟩ : ∃ k : Nat, p = k := ⟨p.toNat, by omega⟩
    obtain ⟨q, rfl⟩ : ∃ k : Nat, q = k := ⟨q.toNat, by omega⟩
    obtain ⟨z, hz, rfl⟩ : ∃ k : Nat, (k = 3 ∨ k = 4) ∧ b = ((8 * k : Nat) : Int) := by
      rcases g5 with rfl | rfl
      · exact ⟨3, .inl rfl, rfl⟩
      · exact ⟨4, .inr rfl, rfl⟩
    have e8 : (((8 * z : Nat) : Int)) / 8 = (z : Int) := by omega
    rw [e8] at g6 ⊢
    have g7 : n = p * q * z := by have : ((p * q * z : Nat) : Int) = (n : Int) := by rw [g6]; simp
                                  omega
    exact put_yes p q z A n c d packed top w hI hnc hc ⟨by show 1 ≤ p; omega, by show p ≤ 256; omega, by show 1 ≤ q; omega, by show q ≤ 256; omega, hz, by show d.length = p * q * z; rw [hI.length, g7]⟩
end Go.Proofs.Ytfkkppagbhllgaa
