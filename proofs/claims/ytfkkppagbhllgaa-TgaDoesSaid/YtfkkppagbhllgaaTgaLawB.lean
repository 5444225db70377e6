/-
  THE LAW TgaBack.
-/
import Derived.Test.YtfkkppagbhllgaaTgaLawA
set_option linter.unusedVariables false
set_option linter.unusedSimpArgs false
set_option maxRecDepth 100000
namespace Go.Proofs.Ytfkkppagbhllgaa
open Go.RowKit

theorem flatMap_le {f : Nat → List UInt8} {K : Nat} (h : ∀ i, (f i).length ≤ K) : ∀ (l : List Nat), (l.flatMap f).length ≤ l.length * K
  | [] => by simp
  | a :: l => by
    have := flatMap_le h l
    have := h a
    rw [List.flatMap_cons, List.length_append, List.length_cons, Nat.succ_mul]; omega
theorem putRow_two {z m : Nat} {t : List UInt8} (packed : Bool) (hz : z = 3 ∨ z = 4) (hm : t.length = m * z) : (putRow packed z t).length ≤ 2 * t.length := by
  unfold putRow
  cases packed with
  | false => simp; omega
  | true =>
    rw [if_pos rfl]
    have hmt : manyT z t = m := by unfold manyT; rw [hm]; exact Nat.mul_div_cancel _ (by omega)
    rcases Nat.eq_zero_or_pos m with rfl | h0
    · unfold packT
      rw [hmt, packFrom_done (by rw [hmt]; omega)]; simp
    · have := pack_len (z := z) (s := t) (by omega) (by rw [hmt]; exact hm)
      have h1 : m ≤ m * z := Nat.le_mul_of_pos_right _ (by omega)
      rw [hmt] at this
      omega
theorem put_short {m : Im} (h : m.ok) (packed top : Bool) : (putT m.w m.h m.z m.d packed top).length ≤ 44 + 2 * m.d.length := by
  unfold putT
  rw [List.length_append, List.length_append, headT_len, show footT.length = 26 from rfl]
  have h1 : ((List.range m.h).flatMap fun i => putRow packed m.z (turnedT m.z (rowT m.w m.z m.d (ordT m.h top i)))).length ≤ (List.range m.h).length * (2 * (m.w * m.z)) := by
    have e : ((List.range m.h).flatMap fun i => putRow packed m.z (turnedT m.z (rowT m.w m.z m.d (ordT m.h top i)))) = ((List.range m.h).flatMap fun i => if i < m.h then putRow packed m.z (turnedT m.z (rowT m.w m.z m.d (ordT m.h top i))) else []) := by
      rw [List.flatMap_def, List.flatMap_def]
      congr 1
      refine List.map_congr_left fun i hi => ?_
      rw [if_pos (List.mem_range.1 hi)]
    rw [e]
    refine flatMap_le (fun i => ?_) _
    split
    · rename_i hi
      have hr := row_len h (ordT_lt top hi)
      have := putRow_two (z := m.z) (m := m.w) (t := turnedT m.z (rowT m.w m.z m.d (ordT m.h top i))) packed h.z (by rw [turnedT_len, hr])
      rw [turnedT_len, hr] at this
      exact this
    · simp
  rw [List.length_range] at h1
  have h2 : m.h * (2 * (m.w * m.z)) = 2 * m.d.length := by
    rw [h.n, Nat.mul_left_comm, ← Nat.mul_assoc m.h, Nat.mul_comm m.h m.w]
  omega
/-- an image that may be put, in plain numbers -/
theorem isT_nat {p q b : Int} {n : Nat} {d : List UInt8} (hd : d.length = n) (h : isT p q b n = true) : ∃ m : Im, m.ok ∧ p = (m.w : Int) ∧ q = (m.h : Int) ∧ b = ((8 * m.z : Nat) : Int) ∧ m.d = d := by
  unfold isT formT at h
  simp only [Bool.and_eq_true, decide_eq_true_eq] at h
  obtain ⟨⟨g1, g2, g3, g4, g5⟩, g6⟩ := h
  obtain ⟨p, rfl⟩ : ∃ k : Nat, p = k := ⟨p.toNat, by omega⟩
  obtain ⟨q, rfl⟩ : ∃ k : Nat, q = k := ⟨q.toNat, by omega⟩
  obtain ⟨z, hz, rfl⟩ : ∃ k : Nat, (k = 3 ∨ k = 4) ∧ b = ((8 * k : Nat) : Int) := by
    rcases g5 with rfl | rfl
    · exact ⟨3, .inl rfl, rfl⟩
    · exact ⟨4, .inr rfl, rfl⟩
  have e8 : (((8 * z : Nat) : Int)) / 8 = (z : Int) := by omega
  rw [e8] at g6
  have g7 : n = p * q * z := by
    have : ((p * q * z : Nat) : Int) = (n : Int) := by rw [g6]; simp
    omega
  exact ⟨⟨p, q, z, d⟩, ⟨by show 1 ≤ p; omega, by show p ≤ 256; omega, by show 1 ≤ q; omega, by show q ≤ 256; omega, hz, by show d.length = p * q * z; rw [hd, g7]⟩, rfl, rfl, rfl, rfl⟩
theorem isT_ok {m : Im} (h : m.ok) : isT m.w m.h ((8 * m.z : Nat) : Int) m.d.length = true := by
  unfold isT
  rw [form_of h, Bool.true_and, decide_eq_true_iff]
  have e8 : (((8 * m.z : Nat) : Int)) / 8 = (m.z : Int) := by omega
  rw [e8, h.n]; simp
theorem putR_ok {m : Im} (h : m.ok) (packed top : Bool) : putR m.w m.h ((8 * m.z : Nat) : Int) m.d packed top = (putT m.w m.h m.z m.d packed top, 0) := by
  unfold putR
  rw [isT_ok h, if_pos rfl, Int.toNat_natCast, Int.toNat_natCast]
  rw [show ((((8 * m.z : Nat) : Int)) / 8).toNat = m.z by omega]
theorem putR_no {p q b : Int} {d : List UInt8} {packed top : Bool} (h : isT p q b d.length = false) : putR p q b d packed top = ([], 1) := by
  unfold putR; rw [h]; rfl

set_option maxHeartbeats 1600000 in
theorem back_row (p q b : Int) (A : Option Addr) (n c : Nat) (d : List UInt8) (packed top : Bool) (w : World) (hI : Byts w w.heap.size A n d) (hnc : n ≤ c) (hc : c ≤ 9223372036854775807) :
    Calls Try.prog 5 #[imV p q b A n c, .bool packed, .bool top] w fun e w' => e = .returned (.bool true) ∧ Below w.heap.size w w' := by
  have hb : Below w.heap.size w (w.alloc (.cells #[.int .i64 p, .int .i64 q, .int .i64 b, .slice A n c] 24)) := (Below.refl _ _).alloc (Nat.le_refl _) _
  have HM := Lib.hid (SlotN.new w [.int .i64 p, .int .i64 q, .int .i64 b, .slice A n c] #[.int .i64 p, .int .i64 q, .int .i64 b, .slice A n c] 24 rfl)
  have HB := Lib.hid hb
  have HI1 := Lib.hid ((hI.below hb (Nat.le_refl _)).more hb.size)
  have hz1 : w.heap.size < (w.alloc (.cells #[.int .i64 p, .int .i64 q, .int .i64 b, .slice A n c] 24)).heap.size := by simp
  have KB := Lib.hid (fun W => big_any p q b A n c W)
  have KI := Lib.hid (fun W => is_any p q b A n c W hI.len)
  have HL := Lib.hid hI.length
  clear hb hI
  unfold imV at KB KI ⊢
  have m0 := HM.out.c 0 _ rfl
  have m1 := HM.out.c 1 _ rfl
  have m2 := HM.out.c 2 _ rfl
  have m3 := HM.out.c 3 _ rfl
  by_cases h6 : 600 < n
  · rw [decide_eq_true (by omega)] at KB
    clear h6 hnc hc
    go_enter Try.func5, Try.ntmps5
    go_wp2_with fail
    refine (KB.out _).mono ?_
    rintro e w2 ⟨rfl, hb2⟩
    have HB2 := Lib.hid (HB.out.trans (hb2.mono HB.out.size))
    clear hb2 m0 m1 m2 m3
    go_wp2_with fail
    go_ret
    exact ⟨rfl, HB2.out⟩
  rw [decide_eq_false (by omega)] at KB
  cases hok : isT p q b n with
  | false =>
    have hr : putR p q b d packed top = ([], 1) := putR_no (by rw [HL.out]; exact hok)
    have KP := Lib.hid (fun W (hb : Below (w.alloc (.cells #[.int .i64 p, .int .i64 q, .int .i64 b, .slice A n c] 24)).heap.size (w.alloc (.cells #[.int .i64 p, .int .i64 q, .int .i64 b, .slice A n c] 24)) W) => put_any p q b A n c d packed top W ((HI1.out.below hb (Nat.le_refl _)).more hb.size) hnc hc)
    rw [hr] at KP
    rw [hok] at KI
    unfold SE imV at KP
    dsimp only at KP
    clear hr hok h6 hnc hc HI1
    go_enter Try.func5, Try.ntmps5
    go_wp2_with fail
    generalize w.alloc (.cells #[.int .i64 p, .int .i64 q, .int .i64 b, .slice A n c] 24) = W1 at *
    refine (KB.out _).mono ?_
    clear KB
    rintro e w2 ⟨rfl, hb2⟩
    have HM2 := Lib.hid (HM.out.below hb2 hz1)
    have HB2 := Lib.hid (HB.out.trans (hb2.mono HB.out.size))
    have KP2 := Lib.hid (KP.out _ hb2)
    have hz2 : w.heap.size < w2.heap.size := Nat.lt_of_lt_of_le hz1 hb2.size
    clear hb2 m0 m1 m2 m3 HM HB KP hz1
    have m0 := HM2.out.c 0 _ rfl
    have m1 := HM2.out.c 1 _ rfl
    have m2 := HM2.out.c 2 _ rfl
    have m3 := HM2.out.c 3 _ rfl
    go_wp2_with fail
    refine KP2.out.mono ?_
    clear KP2
    rintro e w3 ⟨rfl, hb3⟩
    have HM3 := Lib.hid (HM2.out.below hb3 hz2)
    have HB3 := Lib.hid (HB2.out.trans (hb3.mono HB2.out.size))
    have hz3 : w.heap.size < w3.heap.size := Nat.lt_of_lt_of_le hz2 hb3.size
    clear hb3 m0 m1 m2 m3 HM2 HB2 hz2
    go_wp2_with fail
    refine (pictured_any _).mono ?_
    rintro e w4 ⟨rfl, hb4⟩
    have HM4 := Lib.hid (HM3.out.below hb4 hz3)
    have HB4 := Lib.hid (HB3.out.trans (hb4.mono HB3.out.size))
    clear hb4 HM3 HB3 hz3
    have m0 := HM4.out.c 0 _ rfl
    have m1 := HM4.out.c 1 _ rfl
    have m2 := HM4.out.c 2 _ rfl
    have m3 := HM4.out.c 3 _ rfl
    go_wp2_with fail
    refine (KI.out _).mono ?_
    rintro e w5 ⟨rfl, hb5⟩
    have HB5 := Lib.hid (HB4.out.trans (hb5.mono HB4.out.size))
    clear hb5 HB4 HM4 m0 m1 m2 m3
    go_wp2_with fail
    go_ret
    exact ⟨rfl, HB5.out⟩
  | true =>
    obtain ⟨m, hm, rfl, rfl, rfl, rfl⟩ := isT_nat HL.out hok
    have hs := put_short hm packed top
    have KP := Lib.hid (fun W (hb : Below (w.alloc (.cells #[.int .i64 (m.w : Int), .int .i64 (m.h : Int), .int .i64 ((8 * m.z : Nat) : Int), .slice A n c] 24)).heap.size (w.alloc (.cells #[.int .i64 (m.w : Int), .int .i64 (m.h : Int), .int .i64 ((8 * m.z : Nat) : Int), .slice A n c] 24)) W) (pk : Bool) =>
      put_any m.w m.h ((8 * m.z : Nat) : Int) A n c m.d pk top W ((HI1.out.below hb (Nat.le_refl _)).more hb.size) hnc hc)
    simp only [putR_ok hm] at KP
    have KG := Lib.hid (fun W => get_any (putT m.w m.h m.z m.d packed top) W (by have := HL.out; omega))
    unfold GetRes at KG
    simp only [get_put hm] at KG
    have HLT : Hid ((putT m.w m.h m.z m.d false top).length = 44 + n) := Lib.hid (by rw [put_len hm, HL.out])
    have hn6 : n ≤ 600 := by omega
    have KS := Lib.hid (fun W A' n' c' (hb : Below (w.alloc (.cells #[.int .i64 (m.w : Int), .int .i64 (m.h : Int), .int .i64 ((8 * m.z : Nat) : Int), .slice A n c] 24)).heap.size (w.alloc (.cells #[.int .i64 (m.w : Int), .int .i64 (m.h : Int), .int .i64 ((8 * m.z : Nat) : Int), .slice A n c] 24)) W) (hy : Byts W W.heap.size A' n' m.d) =>
      same_im W.heap.size m.w m.h ((8 * m.z : Nat) : Int) A n c m.d m.w m.h ((8 * m.z : Nat) : Int) A' n' c' m.d W ((HI1.out.below hb (Nat.le_refl _)).more hb.size) hy (Nat.le_refl _))
    have hST : packed = false → putT m.w m.h m.z m.d packed top = putT m.w m.h m.z m.d false top := fun e => by rw [e]
    have HST := Lib.hid hST
    have HE : Hid (∀ m', some m = some m' → m' = m) := Lib.hid fun m' e => by injection e with e; exact e.symm
    obtain ⟨S, hS⟩ : ∃ S, S = putT m.w m.h m.z m.d packed top := ⟨_, rfl⟩
    obtain ⟨T, hT⟩ : ∃ T, T = putT m.w m.h m.z m.d false top := ⟨_, rfl⟩
    have KP1 := Lib.hid (fun W hb => KP.out W hb packed)
    have KP2 := Lib.hid (fun W hb => KP.out W hb false)
    rw [← hS] at KP1 KG HST
    rw [← hT] at KP2 HLT HST
    unfold SE imV at KP1 KP2
    simp only [BEq.rfl, Bool.and_self] at KS
    unfold imV at KS KG
    clear hST hok h6 hnc hc HI1 hs hm KP hS hT KI
    generalize hmw : (m.w : Int) = mw at *
    generalize hmh : (m.h : Int) = mh at *
    generalize hmb : ((8 * m.z : Nat) : Int) = mb at *
    have HMW := Lib.hid (⟨hmw, hmh, hmb⟩ : _ ∧ _ ∧ _)
    clear hmw hmh hmb
    have w44 : IntKind.i64.wrap (44 + (n : Int)) = 44 + (n : Int) := by rw [IntKind.wrap_i64]; omega
    have t44 : ((T.length : Int) == 44 + (n : Int)) = true := by rw [HLT.out]; simp
    go_enter Try.func5, Try.ntmps5
    go_wp2_with fail
    generalize w.alloc (.cells #[.int .i64 mw, .int .i64 mh, .int .i64 mb, .slice A n c] 24) = W1 at *
    refine (KB.out _).mono ?_
    clear KB
    rintro e w2 ⟨rfl, hb2⟩
    have HM2 := Lib.hid (HM.out.below hb2 hz1)
    have HB2 := Lib.hid hb2
    clear hb2 m0 m1 m2 m3
    have m0 := HM2.out.c 0 _ rfl
    have m1 := HM2.out.c 1 _ rfl
    have m2 := HM2.out.c 2 _ rfl
    have m3 := HM2.out.c 3 _ rfl
    go_wp2_with fail
    refine (KP1.out _ HB2.out).mono ?_
    clear KP1
    rintro e w3 ⟨rfl, hb3⟩
    have HB3 := Lib.hid (HB2.out.trans (hb3.mono HB2.out.size))
    clear hb3 m0 m1 m2 m3 HM2 HB2
    go_wp2_with fail
    refine (KG.out _).mono ?_
    clear KG
    rintro e w4 ⟨hb4, h4⟩
    rcases h4 with ⟨h4, _⟩ | ⟨m', A', n', c', hmm, rfl, hy, hy1, hy2⟩
    · cases h4
    obtain rfl := HE.out m' hmm
    have HB4 := Lib.hid (HB3.out.trans (hb4.mono HB3.out.size))
    have HY4 := Lib.hid hy
    clear hb4 hmm hy hy1 hy2 HB3
    obtain ⟨hmw, hmh, hmb⟩ := HMW.out
    rw [hmw, hmh, hmb]
    clear hmw hmh hmb
    have hbb : Below w4.heap.size w4 (w4.alloc (.cells #[.int .i64 mw, .int .i64 mh, .int .i64 mb, .slice A' n' c'] 24)) := (Below.refl _ _).alloc (Nat.le_refl _) _
    have HN5 := Lib.hid (SlotN.new w4 [.int .i64 mw, .int .i64 mh, .int .i64 mb, .slice A' n' c'] #[.int .i64 mw, .int .i64 mh, .int .i64 mb, .slice A' n' c'] 24 rfl)
    have HB5 := Lib.hid (HB4.out.trans (hbb.mono HB4.out.size))
    have HY5 := Lib.hid ((HY4.out.below hbb (Nat.le_refl _)).more hbb.size)
    have HM5 := Lib.hid (HM.out.below HB5.out hz1)
    have hz5 : w4.heap.size < (w4.alloc (.cells #[.int .i64 mw, .int .i64 mh, .int .i64 mb, .slice A' n' c'] 24)).heap.size := by simp
    clear HY4 HB4 hbb
    have m0 := HM5.out.c 0 _ rfl
    have m1 := HM5.out.c 1 _ rfl
    have m2 := HM5.out.c 2 _ rfl
    have m3 := HM5.out.c 3 _ rfl
    go_wp2_with fail
    generalize (w4.alloc (.cells #[.int .i64 mw, .int .i64 mh, .int .i64 mb, .slice A' n' c'] 24)) = W5 at *
    refine (KP2.out _ HB5.out).mono ?_
    clear KP2
    rintro e w6 ⟨rfl, hb6⟩
    have HB6 := Lib.hid (HB5.out.trans (hb6.mono HB5.out.size))
    have HY6 := Lib.hid ((HY5.out.below hb6 (Nat.le_refl _)).more hb6.size)
    have HN6 := Lib.hid (HN5.out.below hb6 hz5)
    have hz6 : w4.heap.size < w6.heap.size := Nat.lt_of_lt_of_le hz5 hb6.size
    clear HB5 HY5 HN5 hz5 hb6 HM5 m0 m1 m2 m3
    go_wp2_with fail
    refine (pictured_any _).mono ?_
    rintro e w7 ⟨rfl, hb7⟩
    have HB7 := Lib.hid (HB6.out.trans (hb7.mono HB6.out.size))
    have HY7 := Lib.hid ((HY6.out.below hb7 (Nat.le_refl _)).more hb7.size)
    have HN7 := Lib.hid (HN6.out.below hb7 hz6)
    clear HB6 HY6 HN6 hz6 hb7
    have HM7 := Lib.hid (HM.out.below HB7.out hz1)
    have m0 := HM7.out.c 0 _ rfl
    have m1 := HM7.out.c 1 _ rfl
    have m2 := HM7.out.c 2 _ rfl
    have m3 := HM7.out.c 3 _ rfl
    have n0 := HN7.out.c 0 _ rfl
    have n1 := HN7.out.c 1 _ rfl
    have n2 := HN7.out.c 2 _ rfl
    have n3 := HN7.out.c 3 _ rfl
    have KS7 := Lib.hid (KS.out w7 A' n' c' HB7.out HY7.out)
    clear KS
    go_wp2_with fail
    refine KS7.out.mono ?_
    clear KS7
    rintro e w8 ⟨rfl, hb8⟩
    have HB8 := Lib.hid (HB7.out.trans (hb8.mono HB7.out.size))
    clear HB7 HY7 HN7 hb8 m0 m1 m2 m3 n0 n1 n2 n3 HM7
    have HM8 := Lib.hid (HM.out.below HB8.out hz1)
    have m3 := HM8.out.c 3 _ rfl
    have HBZ := Lib.hid (HB.out.trans (HB8.out.mono HB.out.size))
    cases packed with
    | true =>
      go_wp2_with fail
      go_ret
      exact ⟨rfl, HBZ.out⟩
    | false =>
      obtain rfl := HST.out rfl
      go_wp2_with fail
      go_ret
      exact ⟨rfl, HBZ.out⟩
end Go.Proofs.Ytfkkppagbhllgaa
