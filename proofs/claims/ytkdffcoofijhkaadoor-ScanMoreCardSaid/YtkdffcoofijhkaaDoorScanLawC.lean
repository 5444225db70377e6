/-
  THE LAW ScanMore.
-/
import Derived.Test.YtkdffcoofijhkaaDoorScanLawB
import Derived.Test.YtkdffcoofijhkaaDoorScanN
set_option linter.unusedVariables false
set_option linter.unusedSimpArgs false
set_option maxRecDepth 100000
namespace Go.Proofs.YtkdffcoofijhkaaDoor
open Go.RowKit

/-- one byte, made a text -/
theorem run_one (w : World) (c : UInt8) (g : Nat) (hc : w.cell? ⟨g, 0, none⟩ = some (.int .u8 (c.toNat : Int))) :
    (convert 49 9 (.slice (some ⟨g, 0, none⟩) 1 1)).run Tryd.prog w = .ok (.string ⟨[c].toArray⟩) w := by
  refine run_convert_bytes_back w _ _ 5 ⟨g, 0, none⟩ 1 [c] Tryd.underlying49 Tryd.underlying5 Tryd.underlying9 fun j hj => ?_
  obtain rfl : j = 0 := by simp at hj; omega
  rw [addr_lit]
  exact hc
theorem more_long (l : List UInt8) (d : Int) (w : World) (hl : l.length ≤ 9223372036854775807) (h : 17 < l.length) : Calls Tryd.prog 7 #[.string ⟨l.toArray⟩, .int .u8 d] w (Yes w) := by
  have t0 : decide ((17 : Int) < (l.length : Int)) = true := decide_eq_true (by omega)
  unfold Yes
  go_enter Tryd.func7, Tryd.ntmps7
  go_wp2_with fail
  go_ret
  exact ⟨rfl, Below.refl _ _⟩
theorem more_digit (d : Int) (h : 0 ≤ d ∧ d ≤ 255) : ∃ c : UInt8, isDig c = true ∧ (c.toNat : Int) = 48 + d % 10 := by
  refine ⟨UInt8.ofNat (48 + (d % 10).toNat), isDig_chr _ (by omega), ?_⟩
  rw [toNat_ofNat48 _ (by omega)]
  omega

set_option maxHeartbeats 6400000 in
theorem more_any (l : List UInt8) (d : Int) (w : World) (hl : l.length ≤ 17) (hd : 0 ≤ d ∧ d ≤ 255) (hE : Env w) : Calls Tryd.prog 7 #[.string ⟨l.toArray⟩, .int .u8 d] w (Yes w) := by
  have t0 : decide ((17 : Int) < (l.length : Int)) = false := decide_eq_false (by omega)
  obtain ⟨x, hx, hxv⟩ := more_digit d hd
  have td : d.tmod 10 = d % 10 := Int.tmod_eq_emod_of_nonneg hd.1
  have w1 : IntKind.u8.wrap (d % 10) = d % 10 := wrapU8 _ (by omega)
  have HXV := Lib.hid hxv; clear hxv
  have d0 : 0 ≤ d % 10 := by omega
  have d9 : d % 10 ≤ 9 := by omega
  have hdot : (if l.contains 46 then l else l ++ [46]).contains 46 = true := by
    split
    · assumption
    · simp
  have hlen : (if l.contains 46 then l else l ++ [46]).length ≤ 18 := by
    split
    · omega
    · simp; omega
  obtain ⟨t, ht⟩ : ∃ t, t = (if l.contains 46 then l else l ++ [46]) := ⟨_, rfl⟩
  rw [← ht] at hdot hlen
  have HT := Lib.hid ht; clear ht
  have hlaw := more_law t x hx hdot hlen
  obtain ⟨a, r, rfl⟩ : ∃ a r, t = a :: r := by
    cases t with
    | nil => simp at hdot
    | cons a r => exact ⟨a, r, rfl⟩
  have K1 := Lib.hid (fun W hW => parse_any (a :: r) W (by omega) hW)
  have K2 := Lib.hid (fun W hW => parse_any ((a :: r) ++ [x]) W (by simp at hlen ⊢; omega) hW)
  have K3 := Lib.hid (fun W hW => parse_any ((a :: r) ++ [48, 48]) W (by simp at hlen ⊢; omega) hW)
  have K4 := Lib.hid (fun W hW => scanned_any W hW)
  have A1 := fun W => run_cat (P := Tryd.prog) (a :: r) [x] (by simp at hlen ⊢; omega) W
  have A2 := fun W => run_cat (P := Tryd.prog) (a :: r) [48, 48] (by simp at hlen ⊢; omega) W
  obtain ⟨p1, p2, hp⟩ : ∃ u v, parseS (a :: r) = (u, v) := ⟨_, _, rfl⟩
  obtain ⟨q1, q2, hq⟩ : ∃ u v, parseS ((a :: r) ++ [x]) = (u, v) := ⟨_, _, rfl⟩
  obtain ⟨r1, r2, hr⟩ : ∃ u v, parseS ((a :: r) ++ [48, 48]) = (u, v) := ⟨_, _, rfl⟩
  have bp := parse_bd (a :: r)
  have bq := parse_bd ((a :: r) ++ [x])
  rw [hp, hq, hr] at hlaw
  rw [hp] at K1 bp
  rw [hq] at K2 bq
  rw [hr] at K3
  simp only [Prod.mk.injEq, List.head?_cons, Option.some.injEq] at hlaw
  obtain ⟨bp1, bp2⟩ := bp
  obtain ⟨bq1, bq2⟩ := bq
  simp only at bp1 bp2 bq1 bq2
  have HLAW : Hid ((p2 = 5 ∧ r2 = 5) ∨ (p2 = 6 ∧ (r2 == 5) = false) ∨ (p2 = 0 ∧ r1 = p1 ∧ r2 = 0 ∧ q2 = 5 ∧ p1 = 1048576) ∨ (p2 = 0 ∧ r1 = p1 ∧ r2 = 0 ∧ q2 = 5 ∧ p1 = -1048576) ∨
      (p2 = 0 ∧ r1 = p1 ∧ r2 = 0 ∧ q2 = 0 ∧ ((a.toNat : Int) == 45) = true ∧ decide (q1 ≤ p1) = true ∧ decide (q1 - p1 ≤ 231) = true ∧ decide (p1 - q1 ≤ 231) = true) ∨
      (p2 = 0 ∧ r1 = p1 ∧ r2 = 0 ∧ q2 = 0 ∧ ((a.toNat : Int) == 45) = false ∧ ((a.toNat : Int) != 45) = true ∧ decide (p1 ≤ q1) = true ∧ decide (q1 - p1 ≤ 231) = true ∧ decide (p1 - q1 ≤ 231) = true)) := Lib.hid (by
    rcases hlaw with h | ⟨h1, h2⟩ | ⟨h1, ⟨h2, h3⟩, h4, h5 | h5⟩ | ⟨h1, ⟨h2, h3⟩, h4, h5, h6⟩
    · exact .inl h
    · exact .inr (.inl ⟨h1, by simpa using h2⟩)
    · exact .inr (.inr (.inl ⟨h1, h2, h3, h4, h5⟩))
    · exact .inr (.inr (.inr (.inl ⟨h1, h2, h3, h4, h5⟩)))
    · by_cases ha : a = 45
      · obtain ⟨g1, g2⟩ := h5 ha
        exact .inr (.inr (.inr (.inr (.inl ⟨h1, h2, h3, h4, by rw [ha]; rfl, decide_eq_true g1, decide_eq_true (by omega), decide_eq_true g2⟩))))
      · obtain ⟨g1, g2⟩ := h6 (by simpa using ha)
        refine .inr (.inr (.inr (.inr (.inr ⟨h1, h2, h3, h4, ?_, ?_, decide_eq_true g1, decide_eq_true g2, decide_eq_true (by omega)⟩))))
        · rw [beq_eq_false_iff_ne]
          intro e
          exact ha (UInt8.toNat.inj (by show a.toNat = 45; omega))
        · rw [bne_iff_ne]
          intro e
          exact ha (UInt8.toNat.inj (by show a.toNat = 45; omega)))
  have HE := Lib.hid hE
  have g0 : (⟨(a :: r).toArray⟩ : ByteArray)[0]'(by simp [ByteArray.size]) = a := rfl
  clear hE hp hq hr hlaw hdot hlen hx
  unfold Yes NE2 at *
  go_enter Tryd.func7, Tryd.ntmps7
  go_wp2_with fail
  go_loop [5, 6] (fun p i => ∃ k : Nat, k ≤ l.length ∧ i = .int .i64 k ∧ p = .bool ((l.take k).contains 46)) (fun _ i => l.length - (intOf i).toNat)
  case atStart => exact ⟨0, Nat.zero_le _, rfl, rfl⟩
  case round =>
    obtain ⟨k, hk, rfl, rfl⟩ := hrel
    obtain ⟨b, hb⟩ : ∃ b, (l.take k).contains 46 = b := ⟨_, rfl⟩
    rw [hb]
    have HB0 := Lib.hid hb; clear hb
    by_cases hlt : k < l.length
    · have t1 : decide ((k : Int) < (l.length : Int)) = true := decide_eq_true (by omega)
      obtain ⟨c, hc⟩ : ∃ c, l[k] = c := ⟨_, rfl⟩
      have hb2 : Hid ((l.take (k + 1)).contains 46 = (b || c == 46)) := Lib.hid (by
        rw [List.take_succ_eq_append_getElem hlt, hc, List.contains_append, HB0.out]
        by_cases h : c = 46
        · subst h; simp
        · have h' : ¬ 46 = c := fun e => h e.symm
          simp [h, h'])
      have gk : (⟨l.toArray⟩ : ByteArray)[k]'(by simpa [ByteArray.size] using hlt) = c := hc
      clear hc
      cases b with
      | true =>
        go_wp2_with fail
        go_round
        case rel => exact ⟨k + 1, by omega, by go_num, by rw [hb2.out]; rfl⟩
        case measure => simp [intOf]; omega
      | false =>
        have hz : (c == 46) = ((c.toNat : Int) == 46) := by
          by_cases h : c = 46
          · subst h; rfl
          · have h9 : ((c.toNat : Int) == 46) = false := by
              rw [beq_eq_false_iff_ne]; intro e; exact h (UInt8.toNat.inj (by show c.toNat = 46; omega))
            rw [h9]; simpa using h
        have HZ := Lib.hid hz; clear hz
        go_wp2_with fail
        go_round
        case rel => exact ⟨k + 1, by omega, by go_num, by rw [hb2.out, HZ.out]; rfl⟩
        case measure => simp [intOf]; omega
    · have t1 : decide ((k : Int) < (l.length : Int)) = false := decide_eq_false (by omega)
      have hbl : Hid (l.contains 46 = b) := Lib.hid (by rw [← HB0.out, List.take_of_length_le (by omega)])
      clear g0
      cases b with
      | true =>
        obtain rfl : l = a :: r := by have := HT.out; rw [hbl.out] at this; exact this.symm
        have t1 : decide ((k : Int) < (r.length : Int) + 1) = false := decide_eq_false (by simp at hlt; omega)
        clear HB0
        have g0 : (⟨(a :: r).toArray⟩ : ByteArray)[0]'(by simp [ByteArray.size]) = a := rfl
        have HG := Lib.hid g0; clear g0
        go_wp2_with fail
        refine (K1.out _ HE.out).mono ?_
        clear K1
        rintro e w1 ⟨rfl, hb1⟩
        have HB := Lib.hid hb1; clear hb1
        have kc := run_one (w1.alloc (.cells #[.int .u8 (48 + d % 10)] 5)) x w1.heap.size (by rw [HXV.out, cell_of_row _ _ _ _ _ _ (heap_alloc_new w1 _)]; rfl)
        have hb3 : Below w1.heap.size w1 (w1.alloc (.cells #[.int .u8 (48 + d % 10)] 5)) := (Below.refl _ _).alloc (Nat.le_refl _) _
        go_wp2_with fail
        have HB := Lib.hid (HB.out.trans (hb3.mono HB.out.size)); clear hb3
        refine (K2.out _ (HE.out.on HB.out)).mono ?_
        clear K2 kc
        rintro e w2 ⟨rfl, hb1⟩
        have HB := Lib.hid (HB.out.trans (hb1.mono HB.out.size)); clear hb1
        go_wp2_with fail
        refine (K3.out _ (HE.out.on HB.out)).mono ?_
        clear K3
        rintro e w3 ⟨rfl, hb1⟩
        have HB := Lib.hid (HB.out.trans (hb1.mono HB.out.size)); clear hb1
        have g0 := HG.out
        rcases HLAW.out with ⟨rfl, rfl⟩ | ⟨rfl, f1⟩ | ⟨rfl, rfl, rfl, rfl, rfl⟩ | ⟨rfl, rfl, rfl, rfl, rfl⟩ | ⟨rfl, rfl, rfl, rfl, f1, f2, f3, f4⟩ | ⟨rfl, rfl, rfl, rfl, f1, f5, f2, f3, f4⟩
        all_goals
          go_wp2_with fail
          refine (K4.out _ (HE.out.on HB.out)).mono ?_
          clear K4
          rintro e w4 ⟨rfl, hb1⟩
          have HB := Lib.hid (HB.out.trans (hb1.mono HB.out.size)); clear hb1
          go_wp2_with fail
          go_ret
          exact ⟨rfl, HB.out⟩
      | false =>
        have he : l ++ [46] = a :: r := by have := HT.out; rw [hbl.out] at this; exact this.symm
        have A0 := fun W => run_cat (P := Tryd.prog) l [46] (by simp; omega) W
        rw [he] at A0
        clear he HB0
        have g0 : (⟨(a :: r).toArray⟩ : ByteArray)[0]'(by simp [ByteArray.size]) = a := rfl
        have HG := Lib.hid g0; clear g0
        go_wp2_with fail
        refine (K1.out _ HE.out).mono ?_
        clear K1
        rintro e w1 ⟨rfl, hb1⟩
        have HB := Lib.hid hb1; clear hb1
        have kc := run_one (w1.alloc (.cells #[.int .u8 (48 + d % 10)] 5)) x w1.heap.size (by rw [HXV.out, cell_of_row _ _ _ _ _ _ (heap_alloc_new w1 _)]; rfl)
        have hb3 : Below w1.heap.size w1 (w1.alloc (.cells #[.int .u8 (48 + d % 10)] 5)) := (Below.refl _ _).alloc (Nat.le_refl _) _
        go_wp2_with fail
        have HB := Lib.hid (HB.out.trans (hb3.mono HB.out.size)); clear hb3
        refine (K2.out _ (HE.out.on HB.out)).mono ?_
        clear K2 kc
        rintro e w2 ⟨rfl, hb1⟩
        have HB := Lib.hid (HB.out.trans (hb1.mono HB.out.size)); clear hb1
        go_wp2_with fail
        refine (K3.out _ (HE.out.on HB.out)).mono ?_
        clear K3
        rintro e w3 ⟨rfl, hb1⟩
        have HB := Lib.hid (HB.out.trans (hb1.mono HB.out.size)); clear hb1
        have g0 := HG.out
        rcases HLAW.out with ⟨rfl, rfl⟩ | ⟨rfl, f1⟩ | ⟨rfl, rfl, rfl, rfl, rfl⟩ | ⟨rfl, rfl, rfl, rfl, rfl⟩ | ⟨rfl, rfl, rfl, rfl, f1, f2, f3, f4⟩ | ⟨rfl, rfl, rfl, rfl, f1, f5, f2, f3, f4⟩
        all_goals
          go_wp2_with fail
          refine (K4.out _ (HE.out.on HB.out)).mono ?_
          clear K4
          rintro e w4 ⟨rfl, hb1⟩
          have HB := Lib.hid (HB.out.trans (hb1.mono HB.out.size)); clear hb1
          go_wp2_with fail
          go_ret
          exact ⟨rfl, HB.out⟩
theorem more_row (s : ByteArray) (d : Int) (w : World) (hs : s.size ≤ maxLen) (hd : 0 ≤ d ∧ d ≤ 255) (hE : Env w) : Calls Tryd.prog 7 #[.string s, .int .u8 d] w fun e w' => e = .returned (.bool true) ∧ Below w.heap.size w w' := by
  have h : Calls Tryd.prog 7 #[.string ⟨s.data.toList.toArray⟩, .int .u8 d] w (Yes w) := by
    by_cases h1 : 17 < s.data.toList.length
    · exact more_long _ d w (by unfold maxLen at hs; have e := Lib.size_eq s; omega) h1
    · exact more_any _ d w (by omega) hd hE
  rw [Lib.mk_data] at h
  exact h
end Go.Proofs.YtkdffcoofijhkaaDoor
