/-
  THE LAW TgaSame.
-/
import Derived.Test.YtfkkppagbhllgaaTgaLawB
set_option linter.unusedVariables false
set_option linter.unusedSimpArgs false
set_option maxRecDepth 100000
namespace Go.Proofs.Ytfkkppagbhllgaa
open Go.RowKit

/-- one of the bytes, as the walk compares it -/
theorem packed_bit (l : List UInt8) (h : 2 < l.length) : (((l[2].toNat : Nat) : Int) == 10) = isPacked l := by
  unfold isPacked
  rw [show ((10 : Int)) = ((10 : Nat) : Int) from rfl, u8_eq _ 10 (by decide), List.getD_eq_getElem?_getD, List.getElem?_eq_getElem h]
  rfl
set_option maxHeartbeats 1600000 in
theorem same_row (s : List UInt8) (w : World) (bs : s.length ≤ 9223372036854775807) :
    Calls Try.prog 6 #[.string ⟨s.toArray⟩] w fun e w' => e = .returned (.bool true) ∧ Below w.heap.size w w' := by
  by_cases hs : 1500 < s.length
  · have t1 : decide ((1500 : Int) < (s.length : Int)) = true := decide_eq_true (by omega)
    clear bs hs
    go_enter Try.func6, Try.ntmps6
    go_wp2_with fail
    go_ret
    exact ⟨rfl, Below.refl _ _⟩
  have t1 : decide ((1500 : Int) < (s.length : Int)) = false := decide_eq_false (by omega)
  have KG := Lib.hid (fun W => get_any s W (by omega))
  unfold GetRes at KG
  cases hg : getT s with
  | none =>
    rw [hg] at KG
    clear bs hs hg
    go_enter Try.func6, Try.ntmps6
    go_wp2_with fail
    refine (KG.out _).mono ?_
    clear KG
    rintro e w1 ⟨hb1, h1⟩
    rcases h1 with ⟨_, rfl⟩ | ⟨m', A', n', c', hmm, _⟩
    · unfold zimV
      have hbb : Below w1.heap.size w1 (w1.alloc (.cells #[.int .i64 0, .int .i64 0, .int .i64 0, .slice none 0 0] 24)) := (Below.refl _ _).alloc (Nat.le_refl _) _
      have HM := Lib.hid (SlotN.new w1 [.int .i64 0, .int .i64 0, .int .i64 0, .slice none 0 0] #[.int .i64 0, .int .i64 0, .int .i64 0, .slice none 0 0] 24 rfl)
      have HB := Lib.hid (hb1.trans (hbb.mono hb1.size))
      have hz1 : w1.heap.size < (w1.alloc (.cells #[.int .i64 0, .int .i64 0, .int .i64 0, .slice none 0 0] 24)).heap.size := by simp
      clear hb1 hbb
      go_wp2_with fail
      generalize (w1.alloc (.cells #[.int .i64 0, .int .i64 0, .int .i64 0, .slice none 0 0] 24)) = W2 at *
      refine (pictured_any _).mono ?_
      rintro e w3 ⟨rfl, hb3⟩
      have HM3 := Lib.hid (HM.out.below hb3 hz1)
      have HB3 := Lib.hid (HB.out.trans (hb3.mono HB.out.size))
      clear hb3 HM HB hz1
      have m3 := HM3.out.c 3 _ rfl
      go_wp2_with fail
      go_ret
      exact ⟨rfl, HB3.out⟩
    · cases hmm
  | some m =>
    obtain ⟨hm, h18⟩ := get_ok hg
    rw [hg] at KG
    have t2 : decide ((s.length : Int) < 18) = false := decide_eq_false (by omega)
    have hi2 := idx_str s 2 2 (by omega) rfl
    have hi17 := idx_str s 17 17 (by omega) rfl
    obtain ⟨pk, hpk⟩ : ∃ b, b = isPacked s := ⟨_, rfl⟩
    obtain ⟨tp, htp⟩ : ∃ b, b = isTop s := ⟨_, rfl⟩
    have ep : (((s.getD 2 0).toNat : Int) == 10) = pk := by
      rw [hpk]; unfold isPacked
      exact u8_eq _ 10 (by decide)
    have et : decide ((32 : Int) ≤ ((s.getD 17 0).toNat : Int)) = tp := by
      rw [htp]; unfold isTop
      rw [decide_eq_decide]; omega
    have hsame : pk = false → putT m.w m.h m.z m.d pk tp = s := fun e => by
      rw [hpk, htp]
      rw [hpk] at e
      rw [e]
      exact put_get hg e
    have hlen : m.d.length ≤ 262144 := by
      have h1 : m.w * m.h * m.z ≤ 256 * 256 * m.z := Nat.mul_le_mul_right _ (Nat.mul_le_mul hm.w2 hm.h2)
      have := hm.n; have := hm.z
      omega
    have hs2 := put_short hm pk tp
    have KP := Lib.hid (fun W A n c (hI : Byts W W.heap.size A n m.d) hnc hc => put_any m.w m.h ((8 * m.z : Nat) : Int) A n c m.d pk tp W hI hnc hc)
    simp only [putR_ok hm] at KP
    have KG2 := Lib.hid (fun W => get_any (putT m.w m.h m.z m.d pk tp) W (by omega))
    unfold GetRes at KG2
    simp only [get_put hm] at KG2
    have KI := Lib.hid (fun W A n c (hn : n = m.d.length) => is_any m.w m.h ((8 * m.z : Nat) : Int) A n c W (by omega))
    have KS := Lib.hid (fun W A n c A' n' c' (hx : Byts W W.heap.size A n m.d) (hy : Byts W W.heap.size A' n' m.d) =>
      same_im W.heap.size m.w m.h ((8 * m.z : Nat) : Int) A n c m.d m.w m.h ((8 * m.z : Nat) : Int) A' n' c' m.d W hx hy (Nat.le_refl _))
    simp only [BEq.rfl, Bool.and_self] at KS
    have HOK := Lib.hid (isT_ok hm)
    have HE : Hid (∀ m', some m = some m' → m' = m) := Lib.hid fun m' e => by injection e with e; exact e.symm
    obtain ⟨T, hT⟩ : ∃ T, T = putT m.w m.h m.z m.d pk tp := ⟨_, rfl⟩
    rw [← hT] at KP KG2 hsame
    have HST := Lib.hid hsame
    have hi2' : ∀ W, Sem.run Try.prog (Instr.index 9 (.string ⟨s.toArray⟩) (.int .i64 2)) W = .ok (.int .u8 ((s.getD 2 0).toNat : Int)) W := hi2
    generalize ((s.getD 2 0).toNat : Int) = y2 at *
    generalize ((s.getD 17 0).toNat : Int) = y17 at *
    unfold SE imV at KP
    unfold imV at KS KG KG2 KI
    clear bs hs hsame hs2 hT hpk htp hlen hi2' hm hg h18
    generalize hmw : (m.w : Int) = mw at *
    generalize hmh : (m.h : Int) = mh at *
    generalize hmb : ((8 * m.z : Nat) : Int) = mb at *
    have HMW := Lib.hid (⟨hmw, hmh, hmb⟩ : _ ∧ _ ∧ _)
    clear hmw hmh hmb
    go_enter Try.func6, Try.ntmps6
    go_wp2_with fail
    refine (KG.out _).mono ?_
    clear KG
    rintro e w1 ⟨hb1, h1⟩
    rcases h1 with ⟨h1, _⟩ | ⟨m', A, n, c, hmm, rfl, hy, hy1, hy2⟩
    · cases h1
    obtain rfl := HE.out m' hmm
    obtain ⟨hmw, hmh, hmb⟩ := HMW.out
    rw [hmw, hmh, hmb]
    clear hmw hmh hmb hmm
    have hbb : Below w1.heap.size w1 (w1.alloc (.cells #[.int .i64 mw, .int .i64 mh, .int .i64 mb, .slice A n c] 24)) := (Below.refl _ _).alloc (Nat.le_refl _) _
    have HM2 := Lib.hid (SlotN.new w1 [.int .i64 mw, .int .i64 mh, .int .i64 mb, .slice A n c] #[.int .i64 mw, .int .i64 mh, .int .i64 mb, .slice A n c] 24 rfl)
    have HB2 := Lib.hid (hb1.trans (hbb.mono hb1.size))
    have HY2 := Lib.hid ((hy.below hbb (Nat.le_refl _)).more hbb.size)
    have hz2 : w1.heap.size < (w1.alloc (.cells #[.int .i64 mw, .int .i64 mh, .int .i64 mb, .slice A n c] 24)).heap.size := by simp
    have HNC := Lib.hid (⟨hy1, hy2⟩ : _ ∧ _)
    have HNL := Lib.hid hy.length
    clear hb1 hbb hy hy1 hy2
    have m0 := HM2.out.c 0 _ rfl
    have m1 := HM2.out.c 1 _ rfl
    have m2 := HM2.out.c 2 _ rfl
    have m3 := HM2.out.c 3 _ rfl
    go_wp2_with fail
    generalize (w1.alloc (.cells #[.int .i64 mw, .int .i64 mh, .int .i64 mb, .slice A n c] 24)) = W2 at *
    refine (KP.out _ A n c HY2.out HNC.out.1 HNC.out.2).mono ?_
    clear KP
    rintro e w3 ⟨rfl, hb3⟩
    have HM3 := Lib.hid (HM2.out.below hb3 hz2)
    have HB3 := Lib.hid (HB2.out.trans (hb3.mono HB2.out.size))
    have HY3 := Lib.hid ((HY2.out.below hb3 (Nat.le_refl _)).more hb3.size)
    have hz3 : w1.heap.size < w3.heap.size := Nat.lt_of_lt_of_le hz2 hb3.size
    clear HM2 HB2 HY2 hz2 hb3 m0 m1 m2 m3
    go_wp2_with fail
    refine (KG2.out _).mono ?_
    clear KG2
    rintro e w4 ⟨hb4, h4⟩
    rcases h4 with ⟨h4, _⟩ | ⟨m', A', n', c', hmm, rfl, hy, hy1, hy2⟩
    · cases h4
    obtain rfl := HE.out m' hmm
    obtain ⟨hmw, hmh, hmb⟩ := HMW.out
    rw [hmw, hmh, hmb]
    clear hmw hmh hmb hmm
    have HM4 := Lib.hid (HM3.out.below hb4 hz3)
    have HB4 := Lib.hid (HB3.out.trans (hb4.mono HB3.out.size))
    have HY4 := Lib.hid ((HY3.out.below hb4 (Nat.le_refl _)).more hb4.size)
    have hz4 : w1.heap.size < w4.heap.size := Nat.lt_of_lt_of_le hz3 hb4.size
    have HX4 := Lib.hid hy
    clear HM3 HB3 HY3 hz3 hb4 hy hy1 hy2
    have hbb : Below w4.heap.size w4 (w4.alloc (.cells #[.int .i64 mw, .int .i64 mh, .int .i64 mb, .slice A' n' c'] 24)) := (Below.refl _ _).alloc (Nat.le_refl _) _
    have HN5 := Lib.hid (SlotN.new w4 [.int .i64 mw, .int .i64 mh, .int .i64 mb, .slice A' n' c'] #[.int .i64 mw, .int .i64 mh, .int .i64 mb, .slice A' n' c'] 24 rfl)
    have HM5 := Lib.hid (HM4.out.below hbb hz4)
    have HB5 := Lib.hid (HB4.out.trans (hbb.mono HB4.out.size))
    have HY5 := Lib.hid ((HY4.out.below hbb (Nat.le_refl _)).more hbb.size)
    have HX5 := Lib.hid ((HX4.out.below hbb (Nat.le_refl _)).more hbb.size)
    have hz5 : w4.heap.size < (w4.alloc (.cells #[.int .i64 mw, .int .i64 mh, .int .i64 mb, .slice A' n' c'] 24)).heap.size := by simp
    clear HM4 HB4 HY4 HX4 hbb
    go_wp2_with fail
    generalize (w4.alloc (.cells #[.int .i64 mw, .int .i64 mh, .int .i64 mb, .slice A' n' c'] 24)) = W5 at *
    refine (pictured_any _).mono ?_
    rintro e w6 ⟨rfl, hb6⟩
    have HM6 := Lib.hid (HM5.out.below hb6 (Nat.lt_trans hz4 hz5))
    have HN6 := Lib.hid (HN5.out.below hb6 hz5)
    have HB6 := Lib.hid (HB5.out.trans (hb6.mono HB5.out.size))
    have HY6 := Lib.hid ((HY5.out.below hb6 (Nat.le_refl _)).more hb6.size)
    have HX6 := Lib.hid ((HX5.out.below hb6 (Nat.le_refl _)).more hb6.size)
    have hz6 : w4.heap.size < w6.heap.size := Nat.lt_of_lt_of_le hz5 hb6.size
    clear HM5 HN5 HB5 HY5 HX5 hz5 hb6
    have m0 := HM6.out.c 0 _ rfl
    have m1 := HM6.out.c 1 _ rfl
    have m2 := HM6.out.c 2 _ rfl
    have m3 := HM6.out.c 3 _ rfl
    have KI6 := KI.out w6 A n c HNL.out.symm
    have HOK2 := HOK.out
    rw [HNL.out] at HOK2
    rw [HOK2] at KI6
    have KI7 := Lib.hid KI6
    clear KI KI6 HOK2
    go_wp2_with fail
    refine KI7.out.mono ?_
    clear KI7
    rintro e w7 ⟨rfl, hb7⟩
    have HM7 := Lib.hid (HM6.out.below hb7 (Nat.lt_trans hz4 hz6))
    have HN7 := Lib.hid (HN6.out.below hb7 hz6)
    have HB7 := Lib.hid (HB6.out.trans (hb7.mono HB6.out.size))
    have HY7 := Lib.hid ((HY6.out.below hb7 (Nat.le_refl _)).more hb7.size)
    have HX7 := Lib.hid ((HX6.out.below hb7 (Nat.le_refl _)).more hb7.size)
    clear HM6 HN6 HB6 HY6 HX6 hz6 hb7 m0 m1 m2 m3
    have m0 := HM7.out.c 0 _ rfl
    have m1 := HM7.out.c 1 _ rfl
    have m2 := HM7.out.c 2 _ rfl
    have m3 := HM7.out.c 3 _ rfl
    have n0 := HN7.out.c 0 _ rfl
    have n1 := HN7.out.c 1 _ rfl
    have n2 := HN7.out.c 2 _ rfl
    have n3 := HN7.out.c 3 _ rfl
    have KS7 := Lib.hid (KS.out w7 A n c A' n' c' HY7.out HX7.out)
    clear KS HY7 HX7
    cases pk with
    | true =>
      go_wp2_with fail
      refine KS7.out.mono ?_
      rintro e w8 ⟨rfl, hb8⟩
      have HB8 := Lib.hid (HB7.out.trans (hb8.mono HB7.out.size))
      clear hb8 m0 m1 m2 m3 n0 n1 n2 n3
      go_wp2_with fail
      go_ret
      exact ⟨rfl, HB8.out⟩
    | false =>
      obtain rfl := HST.out rfl
      go_wp2_with fail
      refine KS7.out.mono ?_
      rintro e w8 ⟨rfl, hb8⟩
      have HB8 := Lib.hid (HB7.out.trans (hb8.mono HB7.out.size))
      clear hb8 m0 m1 m2 m3 n0 n1 n2 n3
      go_wp2_with fail
      go_ret
      exact ⟨rfl, HB8.out⟩
end Go.Proofs.Ytfkkppagbhllgaa
