/-
  THE WALKS OF limewashref29's Is, Own and row.
-/
import Derived.Test.YtfkkppagbhllgaaTgaRefE
import Derived.Test.YtfkkppagbhllgaaTgaSame
set_option linter.unusedVariables false
set_option linter.unusedSimpArgs false
set_option maxRecDepth 100000
namespace Go.Proofs.Ytfkkppagbhllgaa
open Go.RowKit

set_option maxHeartbeats 800000 in
theorem isref_any (p q b : Int) (A : Option Addr) (n c : Nat) (w : World) (hn : n ≤ 9223372036854775807) :
    Calls Try.prog 23 #[imV p q b A n c] w fun e w' => e = .returned (.bool (isT p q b n)) ∧ Below w.heap.size w w' := by
  have HB := Lib.hid ((Below.refl w.heap.size w).alloc (Nat.le_refl _) (.cells #[.int .i64 p, .int .i64 q, .int .i64 b, .slice A n c] 24))
  have HF : Hid (formT p q b = false → isT p q b n = false) := Lib.hid fun h => by unfold isT; rw [h]; rfl
  unfold imV
  by_cases h1 : p < 1
  · have t1 : decide (p < 1) = true := decide_eq_true h1
    have HNO := Lib.hid (HF.out (by unfold formT; rw [decide_eq_false_iff_not]; omega))
    clear h1
    go_enter Try.func23, Try.ntmps23
    go_wp2_with fail
    go_ret
    exact ⟨ret_bool HNO.out.symm, HB.out⟩
  have t1 : decide (p < 1) = false := decide_eq_false h1
  by_cases h2 : 256 < p
  · have t2 : decide (256 < p) = true := decide_eq_true h2
    have HNO := Lib.hid (HF.out (by unfold formT; rw [decide_eq_false_iff_not]; omega))
    clear h1 h2
    go_enter Try.func23, Try.ntmps23
    go_wp2_with fail
    go_ret
    exact ⟨ret_bool HNO.out.symm, HB.out⟩
  have t2 : decide (256 < p) = false := decide_eq_false h2
  by_cases h3 : q < 1
  · have t3 : decide (q < 1) = true := decide_eq_true h3
    have HNO := Lib.hid (HF.out (by unfold formT; rw [decide_eq_false_iff_not]; omega))
    clear h1 h2 h3
    go_enter Try.func23, Try.ntmps23
    go_wp2_with fail
    go_ret
    exact ⟨ret_bool HNO.out.symm, HB.out⟩
  have t3 : decide (q < 1) = false := decide_eq_false h3
  by_cases h4 : 256 < q
  · have t4 : decide (256 < q) = true := decide_eq_true h4
    have HNO := Lib.hid (HF.out (by unfold formT; rw [decide_eq_false_iff_not]; omega))
    clear h1 h2 h3 h4
    go_enter Try.func23, Try.ntmps23
    go_wp2_with fail
    go_ret
    exact ⟨ret_bool HNO.out.symm, HB.out⟩
  have t4 : decide (256 < q) = false := decide_eq_false h4
  obtain ⟨p, rfl⟩ : ∃ k : Nat, p = k := ⟨p.toNat, by omega⟩
  obtain ⟨q, rfl⟩ : ∃ k : Nat, q = k := ⟨q.toNat, by omega⟩
  have p2 : ¬ (256 < p) := by omega
  have q2 : ¬ (256 < q) := by omega
  by_cases h5 : b = 24
  · subst h5
    have HE : Hid (((n : Int) == (p : Int) * (q : Int) * 3) = isT (p : Int) (q : Int) 24 n) := Lib.hid (by
      unfold isT formT
      rw [decide_eq_true (show (1 ≤ (p : Int) ∧ (p : Int) ≤ 256 ∧ 1 ≤ (q : Int) ∧ (q : Int) ≤ 256 ∧ ((24 : Int) = 24 ∨ (24 : Int) = 32)) by omega), Bool.true_and, show ((24 : Int) / 8) = 3 from rfl, Bool.eq_iff_iff]
      simp)
    have hx := mul_bd (p := p) (q := q) (z := 3) (by omega) (by omega) (by omega)
    have e1 : (p : Int) * (q : Int) = ((p * q : Nat) : Int) := by simp
    rw [e1] at HE
    generalize p * q = R at *
    have wR : IntKind.i64.wrap (R : Int) = (R : Int) := by rw [IntKind.wrap_i64]; omega
    have wRz : IntKind.i64.wrap ((R : Int) * 3) = (R : Int) * 3 := by rw [IntKind.wrap_i64]; omega
    clear h1 h2 h3 h4 hx
    go_enter Try.func23, Try.ntmps23
    go_wp2_with fail
    go_ret
    exact ⟨ret_bool HE.out, HB.out⟩
  · by_cases h6 : b = 32
    · subst h6
      clear h5
      have HE : Hid (((n : Int) == (p : Int) * (q : Int) * 4) = isT (p : Int) (q : Int) 32 n) := Lib.hid (by
        unfold isT formT
        rw [decide_eq_true (show (1 ≤ (p : Int) ∧ (p : Int) ≤ 256 ∧ 1 ≤ (q : Int) ∧ (q : Int) ≤ 256 ∧ ((32 : Int) = 24 ∨ (32 : Int) = 32)) by omega), Bool.true_and, show ((32 : Int) / 8) = 4 from rfl, Bool.eq_iff_iff]
        simp)
      have hx := mul_bd (p := p) (q := q) (z := 4) (by omega) (by omega) (by omega)
      have e1 : (p : Int) * (q : Int) = ((p * q : Nat) : Int) := by simp
      rw [e1] at HE
      generalize p * q = R at *
      have wR : IntKind.i64.wrap (R : Int) = (R : Int) := by rw [IntKind.wrap_i64]; omega
      have wRz : IntKind.i64.wrap ((R : Int) * 4) = (R : Int) * 4 := by rw [IntKind.wrap_i64]; omega
      clear h1 h2 h3 h4 hx
      go_enter Try.func23, Try.ntmps23
      go_wp2_with fail
      go_ret
      exact ⟨ret_bool HE.out, HB.out⟩
    · have t5 : (b != 24) = true := by rw [bne_iff_ne]; exact h5
      have t6 : (b != 32) = true := by rw [bne_iff_ne]; exact h6
      have HNO := Lib.hid (HF.out (by unfold formT; rw [decide_eq_false_iff_not]; omega))
      clear h1 h2 h3 h4 h5 h6
      go_enter Try.func23, Try.ntmps23
      go_wp2_with fail
      go_ret
      exact ⟨ret_bool HNO.out.symm, HB.out⟩

/-- what Own hands back -/
def OwnIm (p q b : Int) (d : List UInt8) (w : World) (e : Ending) (w' : World) : Prop :=
  Below w.heap.size w w' ∧ ∃ A n c, e = .returned (imV p q b A n c) ∧ Byts w' w'.heap.size A n d ∧ n ≤ c ∧ c ≤ 9223372036854775807
theorem bytes_one : ∀ (d : List UInt8), ∀ u ∈ Lib.byteCells d, u.oneCell' = true := fun d u hu => by
  unfold Lib.byteCells at hu
  obtain ⟨x, _, rfl⟩ := List.mem_map.1 hu
  rfl
set_option maxHeartbeats 800000 in
theorem ownref_pos (p q b : Int) (A : Option Addr) (n c : Nat) (d : List UInt8) (w : World) (hI : Byts w w.heap.size A n d) (h0 : 0 < n) (hn : n ≤ 10000000) :
    Calls Try.prog 10 #[imV p q b A n c] w (OwnIm p q b d w) := by
  obtain ⟨i0, hi0, hz0, hzz1, hzz2⟩ := info_parts size_u8
  have hlen := hI.length
  have hl : (Lib.byteCells d).length = n * 1 := by rw [bytes_len]; omega
  obtain ⟨ad, rfl, hbl, hc⟩ := hI.rd.2 h0
  have hb1 : Below w.heap.size w (w.alloc (.cells #[.int .i64 p, .int .i64 q, .int .i64 b, .slice (some ad) n c] 24)) := (Below.refl _ _).alloc (Nat.le_refl _) _
  have hb2 := hb1.alloc hb1.size (.cells zimC 24)
  have hb3 := hb2.alloc hb2.size (.cells #[.int .i64 p, .int .i64 q, .int .i64 b, .slice none 0 0] 24)
  have s1 := SlotN.new w [.int .i64 p, .int .i64 q, .int .i64 b, .slice (some ad) n c] #[.int .i64 p, .int .i64 q, .int .i64 b, .slice (some ad) n c] 24 rfl
  have m3' := s1.c 3 _ rfl
  obtain ⟨W3, hW3⟩ : ∃ W3, W3 = ((w.alloc (.cells #[.int .i64 p, .int .i64 q, .int .i64 b, .slice (some ad) n c] 24)).alloc (.cells zimC 24)).alloc (.cells #[.int .i64 p, .int .i64 q, .int .i64 b, .slice none 0 0] 24) := ⟨_, rfl⟩
  have s3 : SlotN W3 (w.heap.size + 1 + 1) [.int .i64 p, .int .i64 q, .int .i64 b, .slice none 0 0] := by
    have := SlotN.new ((w.alloc (.cells #[.int .i64 p, .int .i64 q, .int .i64 b, .slice (some ad) n c] 24)).alloc (.cells zimC 24)) [.int .i64 p, .int .i64 q, .int .i64 b, .slice none 0 0] #[.int .i64 p, .int .i64 q, .int .i64 b, .slice none 0 0] 24 rfl
    rw [hW3]; simpa using this
  have s2 : SlotN W3 (w.heap.size + 1) zim := by
    have := SlotN.new (w.alloc (.cells #[.int .i64 p, .int .i64 q, .int .i64 b, .slice (some ad) n c] 24)) zim zimC 24 rfl
    rw [World.size_alloc] at this
    rw [hW3]
    exact this.below ((Below.refl (w.heap.size + 1 + 1) _).alloc (by simp) _) (by omega)
  rw [← hW3] at hb3
  have hz3 : W3.heap.size = w.heap.size + 3 := by rw [hW3]; simp
  have hcW : ∀ j u, (Lib.byteCells d)[j]? = some u → W3.cell? (ad.add j) = some u := fun j u hu => by
    rw [hb3.cell (by rw [addr_block]; exact hbl)]; exact hc j u hu
  unfold zimC at hW3
  have HW3 := Lib.hid hW3
  have S3 := Lib.hid s3
  have S2 := Lib.hid s2
  have HB3 := Lib.hid hb3
  have HC := Lib.hid hcW
  have hone := Lib.hid (bytes_one d)
  clear s1 s2 s3 hb1 hb2 hb3 hcW hc hI
  unfold imV
  go_enter Try.func10, Try.ntmps10
  go_wp2_with (at_builtin; rw [← HW3.out]; refine wpList_append_lies _ rfl (.tmp 12) (.tmp 14) _ rfl (w.heap.size + 3) 5 i0 _ 1 1 Try.underlying22 hi0 hz0 hzz1 hzz2 rfl (by decide) _ 0 [] rfl (World.ownsRow_nil _ _ _ _) ad n c (Lib.byteCells d) rfl hl HC.out hone.out h0 (by unfold maxLen; omega) (by omega) (by omega) _ rfl ?_; intro g4 cap4 w4 hown4 hgr4 hat4 hlt4; have T3 := slot_far S3.out hgr4 (fun e => by cases e) (by omega); have T2 := slot_far S2.out hgr4 (fun e => by cases e) (by omega); have a0 := T3.c 0 _ rfl; have a1 := T3.c 1 _ rfl; have a2 := T3.c 2 _ rfl; have a3 := T3.c 3 _ rfl; have f3 := T3.f 3; have b0 := T2.c 0 _ rfl; have b1 := T2.c 1 _ rfl; have b2 := T2.c 2 _ rfl; have b3 := T2.c 3 _ rfl; have k0 := T2.f 0; have k1 := T2.f 1; have k2 := T2.f 2; have k3 := T2.f 3; have HGR := Lib.hid hgr4; have HOWN := Lib.hid hown4; have HT2 := Lib.hid T2; clear hgr4 hown4 T2 T3 hat4)
  simp only [Nat.zero_add, List.nil_append] at *
  have HR := Lib.hid (((((HT2.out.otherJ (w.heap.size + 1 + 1) 3 (by omega) (.slice (some ⟨g4, 0, none⟩) n cap4)).setAt 0 (by simp [zim]) (.int .i64 p)).setAt 1 (by simp [zim]) (.int .i64 q)).setAt 2 (by simp [zim]) (.int .i64 b)).setAt 3 (by simp [zim]) (.slice (some ⟨g4, 0, none⟩) n cap4))
  have HB4 := HB3.out.grown HGR.out HB3.out.size (fun k hk => by cases hk)
  have HBZ := Lib.hid (((((HB4.setCell (p := ⟨w.heap.size + 1 + 1, 3, none⟩) (by simp; omega) (.slice (some ⟨g4, 0, none⟩) n cap4)).setCell (p := ⟨w.heap.size + 1, 0, none⟩) (by simp) (.int .i64 p)).setCell (p := ⟨w.heap.size + 1, 1, none⟩) (by simp) (.int .i64 q)).setCell (p := ⟨w.heap.size + 1, 2, none⟩) (by simp) (.int .i64 b)).setCell (p := ⟨w.heap.size + 1, 3, none⟩) (by simp) (.slice (some ⟨g4, 0, none⟩) n cap4))
  have HO := own_kept (own_kept (own_kept (own_kept (own_kept HOWN.out (grown_set _ (w.heap.size + 1 + 1) 3 (.slice (some ⟨g4, 0, none⟩) n cap4)) (by omega)) (grown_set _ (w.heap.size + 1) 0 (.int .i64 p)) (by omega)) (grown_set _ (w.heap.size + 1) 1 (.int .i64 q)) (by omega)) (grown_set _ (w.heap.size + 1) 2 (.int .i64 b)) (by omega)) (grown_set _ (w.heap.size + 1) 3 (.slice (some ⟨g4, 0, none⟩) n cap4)) (by omega)
  clear HB4 a0 a1 a2 a3 b0 b1 b2 b3 f3 k0 k1 k2 k3
  generalize World.setCell _ ⟨w.heap.size + 1, 3, none⟩ (.slice (some ⟨g4, 0, none⟩) n cap4) = V at *
  have e0 := HR.out.c 0 _ rfl
  have e1 := HR.out.c 1 _ rfl
  have e2 := HR.out.c 2 _ rfl
  have e3 := HR.out.c 3 _ rfl
  have hcp := own_cap HO
  exact bodyPost_ret (v := .agg #[.int .i64 p, .int .i64 q, .int .i64 b, .slice (some ⟨g4, 0, none⟩) n cap4]) (by simp [results, Try.results10, go_sem, e0, e1, e2, e3]) rfl ⟨HBZ.out, some ⟨g4, 0, none⟩, n, cap4, rfl, ⟨Rd.of_own HO, by omega⟩, hcp.1, hcp.2⟩
theorem ownref_nil (p q b : Int) (A : Option Addr) (c : Nat) (w : World) :
    Calls Try.prog 10 #[imV p q b A 0 c] w (OwnIm p q b [] w) := by
  have hb1 : Below w.heap.size w (w.alloc (.cells #[.int .i64 p, .int .i64 q, .int .i64 b, .slice A 0 c] 24)) := (Below.refl _ _).alloc (Nat.le_refl _) _
  unfold imV
  cases A with
  | none =>
    go_enter Try.func10, Try.ntmps10
    go_wp2_with fail
    have s2 := SlotN.new (w.alloc (.cells #[.int .i64 p, .int .i64 q, .int .i64 b, .slice none 0 c] 24)) [.int .i64 p, .int .i64 q, .int .i64 b, .slice none 0 0] #[.int .i64 p, .int .i64 q, .int .i64 b, .slice none 0 0] 24 rfl
    rw [World.size_alloc] at s2
    have hb2 := (hb1.alloc hb1.size (.cells #[.int .i64 p, .int .i64 q, .int .i64 b, .slice none 0 0] 24))
    have hb3 := (hb2.alloc hb2.size (.cells #[.int .i64 p, .int .i64 q, .int .i64 b, .slice none 0 0] 24))
    have s3 := s2.below ((Below.refl (w.heap.size + 1 + 1) _).alloc (by simp) (.cells #[.int .i64 p, .int .i64 q, .int .i64 b, .slice none 0 0] 24)) (by omega)
    generalize ((w.alloc (.cells #[.int .i64 p, .int .i64 q, .int .i64 b, .slice none 0 c] 24)).alloc (.cells #[.int .i64 p, .int .i64 q, .int .i64 b, .slice none 0 0] 24)).alloc (.cells #[.int .i64 p, .int .i64 q, .int .i64 b, .slice none 0 0] 24) = V at *
    have e0 := s3.c 0 _ rfl
    have e1 := s3.c 1 _ rfl
    have e2 := s3.c 2 _ rfl
    have e3 := s3.c 3 _ rfl
    exact bodyPost_ret (v := .agg #[.int .i64 p, .int .i64 q, .int .i64 b, .slice none 0 0]) (by simp [results, Try.results10, go_sem, e0, e1, e2, e3]) rfl ⟨hb3, none, 0, 0, rfl, ⟨Rd.nil, by omega⟩, Nat.le_refl _, by omega⟩
  | some ad =>
    go_enter Try.func10, Try.ntmps10
    go_wp2_with fail
    have s2 := SlotN.new (w.alloc (.cells #[.int .i64 p, .int .i64 q, .int .i64 b, .slice (some ad) 0 c] 24)) [.int .i64 p, .int .i64 q, .int .i64 b, .slice none 0 0] #[.int .i64 p, .int .i64 q, .int .i64 b, .slice none 0 0] 24 rfl
    rw [World.size_alloc] at s2
    have hb2 := (hb1.alloc hb1.size (.cells #[.int .i64 p, .int .i64 q, .int .i64 b, .slice none 0 0] 24))
    have hb3 := (hb2.alloc hb2.size (.cells #[.int .i64 p, .int .i64 q, .int .i64 b, .slice none 0 0] 24))
    have s3 := s2.below ((Below.refl (w.heap.size + 1 + 1) _).alloc (by simp) (.cells #[.int .i64 p, .int .i64 q, .int .i64 b, .slice none 0 0] 24)) (by omega)
    generalize ((w.alloc (.cells #[.int .i64 p, .int .i64 q, .int .i64 b, .slice (some ad) 0 c] 24)).alloc (.cells #[.int .i64 p, .int .i64 q, .int .i64 b, .slice none 0 0] 24)).alloc (.cells #[.int .i64 p, .int .i64 q, .int .i64 b, .slice none 0 0] 24) = V at *
    have e0 := s3.c 0 _ rfl
    have e1 := s3.c 1 _ rfl
    have e2 := s3.c 2 _ rfl
    have e3 := s3.c 3 _ rfl
    exact bodyPost_ret (v := .agg #[.int .i64 p, .int .i64 q, .int .i64 b, .slice none 0 0]) (by simp [results, Try.results10, go_sem, e0, e1, e2, e3]) rfl ⟨hb3, none, 0, 0, rfl, ⟨Rd.nil, by omega⟩, Nat.le_refl _, by omega⟩
theorem ownref_any (p q b : Int) (A : Option Addr) (n c : Nat) (d : List UInt8) (w : World) (hI : Byts w w.heap.size A n d) (hn : n ≤ 10000000) :
    Calls Try.prog 10 #[imV p q b A n c] w (OwnIm p q b d w) := by
  rcases Nat.eq_zero_or_pos n with rfl | h0
  · have hl := hI.length
    obtain rfl : d = [] := List.eq_nil_of_length_eq_zero hl
    exact ownref_nil p q b A c w
  · exact ownref_pos p q b A n c d w hI h0 hn
end Go.Proofs.Ytfkkppagbhllgaa
