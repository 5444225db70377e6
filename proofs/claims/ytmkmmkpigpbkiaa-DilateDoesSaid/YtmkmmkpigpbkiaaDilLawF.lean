/-
  THE WALK OF THE LAW DilateDoes.
-/
import Derived.Test.YtmkmmkpigpbkiaaDilRefD
import Derived.Test.YtmkmmkpigpbkiaaDilLawC
import Derived.Test.YtmkmmkpigpbkiaaOwnWalk
set_option linter.unusedVariables false
set_option linter.unusedSimpArgs false
namespace Go.Proofs.Ytmkmmkpigpbkiaa
open Go.RowKit

theorem spreadF_i64 (ww pad : Int) (v : List Int) : ∀ x ∈ (spreadF ww pad v).1, -1 ≤ x ∧ x ≤ 255 := by
  rcases spreadF_cases ww pad v with ⟨hf, _⟩ | ⟨q, rfl, hf, hlo, hpo⟩
  · rw [hf]; simp
  · rw [hf]
    obtain ⟨h1, h2⟩ := padOk_iff.1 hpo
    exact spreadS_i64 (pict_of hlo) h1 h2
theorem spreadF_len (ww pad : Int) (v : List Int) : (spreadF ww pad v).1.length ≤ v.length := by
  rcases spreadF_cases ww pad v with ⟨hf, _⟩ | ⟨q, rfl, hf, hlo, hpo⟩
  · rw [hf]; simp
  · rw [hf]; simp [spreadS_len]
theorem fillF_i64 (v : List Int) (back : Int) : ∀ x ∈ (fillF v back).1, -1 ≤ x ∧ x ≤ 255 := by
  rcases fillF_cases v back with ⟨hf, _⟩ | ⟨hf, h1, h2⟩
  · rw [hf]; simp
  · rw [hf]; intro x hx; have := fillS_i64 h1 h2 x hx; omega
theorem fillF_len (v : List Int) (back : Int) : (fillF v back).1.length ≤ v.length := by
  rcases fillF_cases v back with ⟨hf, _⟩ | ⟨hf, h1, h2⟩
  · rw [hf]; simp
  · rw [hf]; simp [fillS]

theorem does_big (A : Option Addr) (n c : Nat) (ww pad x y back : Int) (a b : Pt) (w : World) (hn : n ≤ 9223372036854775807) (hbig : 80 < n) :
    Calls Try.prog 3 #[.int .i64 ww, .int .i64 pad, .slice A n c, .int .i64 x, .int .i64 y, .int .i64 back, ptV a, ptV b] w fun e w' => e = .returned (.bool true) ∧ Below w.heap.size w w' := by
  have d1 : decide ((80 : Int) < (n : Int)) = true := decide_eq_true (by omega)
  unfold ptV
  go_enter Try.func3, Try.ntmps3
  go_wp2_with fail
  go_ret
  exact ⟨rfl, ((Below.refl _ _).alloc (Nat.le_refl _) _).alloc (by simp) _⟩

set_option maxRecDepth 100000 in
set_option maxHeartbeats 6400000 in
theorem does_main (A : Option Addr) (n c : Nat) (v : List Int) (ww pad x y back : Int) (a b : Pt) (w : World) (hI : Ints w w.heap.size A n v) (hn : n ≤ 80) (bw : i64b ww) (bx : i64b x) (by' : i64b y) (ha : a.b) (hb : b.b) :
    Calls Try.prog 3 #[.int .i64 ww, .int .i64 pad, .slice A n c, .int .i64 x, .int .i64 y, .int .i64 back, ptV a, ptV b] w fun e w' => e = .returned (.bool true) ∧ Below w.heap.size w w' := by
  have d1 : decide ((80 : Int) < (n : Int)) = false := decide_eq_false (by omega)
  have hl := Lib.hid hI.length
  have HF1 := Lib.hid (fun W => far_any a b W ha hb)
  have HF2 := Lib.hid (fun W => rfar_any a b W ha hb)
  generalize farS a b = F at HF1 HF2
  clear ha hb
  obtain ⟨ax, ay⟩ := a
  obtain ⟨bx', by''⟩ := b
  unfold ptV at *
  simp only at HF1 HF2
  have hBW : Below w.heap.size w ((w.alloc (.cells #[.int .i64 ax, .int .i64 ay] 24)).alloc (.cells #[.int .i64 bx', .int .i64 by''] 24)) := ((Below.refl _ _).alloc (Nat.le_refl _) _).alloc (by simp) _
  have S1 := (SlotN.new w [.int .i64 ax, .int .i64 ay] #[.int .i64 ax, .int .i64 ay] 24 rfl).below ((Below.refl (w.heap.size + 1) _).alloc (by simp) (.cells #[.int .i64 bx', .int .i64 by''] 24)) (by omega)
  have S2 := SlotN.new (w.alloc (.cells #[.int .i64 ax, .int .i64 ay] 24)) [.int .i64 bx', .int .i64 by''] #[.int .i64 bx', .int .i64 by''] 24 rfl
  simp only [World.size_alloc] at S2
  have hsz : ((w.alloc (.cells #[.int .i64 ax, .int .i64 ay] 24)).alloc (.cells #[.int .i64 bx', .int .i64 by''] 24)).heap.size = w.heap.size + 2 := by simp
  go_enter Try.func3, Try.ntmps3
  go_wp2_with fail
  obtain ⟨W, hW⟩ : ∃ W, W = (w.alloc (.cells #[.int .i64 ax, .int .i64 ay] 24)).alloc (.cells #[.int .i64 bx', .int .i64 by''] 24) := ⟨_, rfl⟩
  rw [← hW] at hBW S1 S2 hsz ⊢
  clear hW
  refine (own_ints_any A n c v W ((hI.below hBW (Nat.le_refl _)).more (by omega)) (by omega)).mono ?_
  intro e w1 h1
  obtain ⟨A1, c1, rfl, hown1, hb1⟩ := h1
  have hIo := Lib.hid (Ints.of_own hown1 hI.i64 (by omega))
  have hB1 : Below w.heap.size w w1 := hBW.trans (hb1.mono (by omega))
  have hIa := Lib.hid ((hI.below hB1 (Nat.le_refl _)).more hB1.size)
  have S11 := Lib.hid (S1.below hb1 (by omega))
  have S21 := Lib.hid (S2.below hb1 (by omega))
  have hz1 : w.heap.size + 2 ≤ w1.heap.size := by have := hb1.size; omega
  clear hown1 hb1 S1 S2 hBW hsz hI
  have HN1 := Lib.hid (nearF_any A n c v ww pad x y w1 hIa.out (by omega) bw bx by')
  have HN2 := Lib.hid (fun W' (hW' : Below w1.heap.size w1 W') => rnear_any A1 n c1 v ww pad x y W' ((hIo.out.below hW' (Nat.le_refl _)).more hW'.size) (by omega) bw)
  unfold NearFRes at HN1 HN2
  obtain ⟨⟨⟨tx', ty'⟩, tb⟩, ht⟩ : ∃ s, s = nearF ww pad v x y := ⟨_, rfl⟩
  rw [← ht] at HN1 HN2
  clear ht
  unfold ptV at HN1 HN2
  simp only at HN1 HN2
  go_wp2_with fail
  refine HN1.out.mono ?_
  clear HN1
  rintro e w2 ⟨rfl, hb2⟩
  obtain ⟨W2, hW2⟩ : ∃ W2, W2 = w2.alloc (.cells #[.int .i64 tx', .int .i64 ty'] 24) := ⟨_, rfl⟩
  have hB2 : Below w1.heap.size w1 W2 := by rw [hW2]; exact hb2.alloc hb2.size _
  have T1 : SlotN W2 w2.heap.size [.int .i64 tx', .int .i64 ty'] := by rw [hW2]; exact SlotN.new w2 _ _ _ rfl
  have hz2 : w2.heap.size < W2.heap.size := by rw [hW2]; simp
  have hz12 : w1.heap.size ≤ w2.heap.size := hb2.size
  go_wp2_with fail
  rw [← hW2]
  clear hW2 hb2
  refine (HN2.out W2 hB2).mono ?_
  clear HN2
  rintro e w3 ⟨rfl, hb3⟩
  obtain ⟨W3, hW3⟩ : ∃ W3, W3 = w3.alloc (.cells #[.int .i64 tx', .int .i64 ty'] 24) := ⟨_, rfl⟩
  have hB23 : Below W2.heap.size W2 W3 := by rw [hW3]; exact hb3.alloc hb3.size _
  have T2 : SlotN W3 w3.heap.size [.int .i64 tx', .int .i64 ty'] := by rw [hW3]; exact SlotN.new w3 _ _ _ rfl
  have T13 := T1.below hB23 hz2
  have hz3 : w3.heap.size < W3.heap.size := by rw [hW3]; simp
  have hz23 : W2.heap.size ≤ w3.heap.size := hb3.size
  have hB3 : Below w1.heap.size w1 W3 := hB2.trans (hB23.mono hB2.size)
  go_wp2_with fail
  rw [← hW3]
  clear hW3 hb3 hB23 T1 hB2
  -- Spread, twice
  have HS1 := Lib.hid (spread_any A n c v ww pad W3 ((hIa.out.below hB3 (Nat.le_refl _)).more hB3.size) (by omega) bw)
  have HS2 := Lib.hid (fun W' (hW' : Below w1.heap.size w1 W') => rspread_any A1 n c1 v ww pad W' ((hIo.out.below hW' (Nat.le_refl _)).more hW'.size) (by omega) bw)
  unfold SpreadRes at HS1 HS2
  have hP64 := Lib.hid (spreadF_i64 ww pad v)
  have hPl := spreadF_len ww pad v
  rw [hl.out] at hPl
  obtain ⟨⟨P, pe⟩, hP⟩ : ∃ u, u = spreadF ww pad v := ⟨_, rfl⟩
  rw [← hP] at HS1 HS2 hP64 hPl
  clear hP
  simp only at HS1 HS2 hP64 hPl
  obtain ⟨np, hnp⟩ : ∃ np, np = P.length := ⟨_, rfl⟩
  rw [← hnp] at HS1 HS2 hPl
  clear hnp
  refine HS1.out.mono ?_
  clear HS1
  intro e w4 h4
  obtain ⟨A4, c4, rfl, hown4, hb4⟩ := h4
  have hB4 : Below w1.heap.size w1 w4 := hB3.trans (hb4.mono hB3.size)
  have hIp4 := Lib.hid (Ints.of_own hown4 (fun x hx => by have := hP64.out x hx; omega) (by omega))
  have T14 := T13.below hb4 (by omega)
  have T24 := T2.below hb4 (by omega)
  have hz4 : W3.heap.size ≤ w4.heap.size := hb4.size
  clear hown4 hb4 hB3 T13 T2
  go_wp2_with fail
  refine (HS2.out w4 hB4).mono ?_
  clear HS2
  intro e w5 h5
  obtain ⟨A5, c5, rfl, hown5, hb5⟩ := h5
  have hB5 : Below w1.heap.size w1 w5 := hB4.trans (hb5.mono hB4.size)
  have hIp5 := Lib.hid ((hIp4.out.below hb5 (Nat.le_refl _)).more hb5.size)
  have hIq5 := Lib.hid (Ints.of_own hown5 (fun x hx => by have := hP64.out x hx; omega) (by omega))
  have T15 := T14.below hb5 (by omega)
  have T25 := T24.below hb5 (by omega)
  have hz5 : w4.heap.size ≤ w5.heap.size := hb5.size
  clear hown5 hb5 hB4 T14 T24 hIp4 hP64
  -- Fill, twice
  have HG1 := Lib.hid (fill_any A n c v back w5 ((hIa.out.below hB5 (Nat.le_refl _)).more hB5.size) (by omega))
  have HG2 := Lib.hid (fun W' (hW' : Below w1.heap.size w1 W') => rfill_any A1 n c1 v back W' ((hIo.out.below hW' (Nat.le_refl _)).more hW'.size) (by omega))
  unfold FillRes at HG1 HG2
  have hM64 := Lib.hid (fillF_i64 v back)
  have hMl := fillF_len v back
  rw [hl.out] at hMl
  obtain ⟨⟨M, me⟩, hM⟩ : ∃ u, u = fillF v back := ⟨_, rfl⟩
  rw [← hM] at HG1 HG2 hM64 hMl
  clear hM
  simp only at HG1 HG2 hM64 hMl
  obtain ⟨nm, hnm⟩ : ∃ nm, nm = M.length := ⟨_, rfl⟩
  rw [← hnm] at HG1 HG2 hMl
  clear hnm
  go_wp2_with fail
  refine HG1.out.mono ?_
  clear HG1
  intro e w6 h6
  obtain ⟨A6, c6, rfl, hown6, hb6⟩ := h6
  have hB6 : Below w1.heap.size w1 w6 := hB5.trans (hb6.mono hB5.size)
  have hIp6 := Lib.hid ((hIp5.out.below hb6 (Nat.le_refl _)).more hb6.size)
  have hIq6 := Lib.hid ((hIq5.out.below hb6 (Nat.le_refl _)).more hb6.size)
  have hIm6 := Lib.hid (Ints.of_own hown6 (fun x hx => by have := hM64.out x hx; omega) (by omega))
  have T16 := T15.below hb6 (by omega)
  have T26 := T25.below hb6 (by omega)
  have hz6 : w5.heap.size ≤ w6.heap.size := hb6.size
  clear hown6 hb6 hB5 T15 T25 hIp5 hIq5
  go_wp2_with fail
  refine (HG2.out w6 hB6).mono ?_
  clear HG2
  intro e w7 h7
  obtain ⟨A7, c7, rfl, hown7, hb7⟩ := h7
  have hB7 : Below w1.heap.size w1 w7 := hB6.trans (hb7.mono hB6.size)
  have hIp := Lib.hid ((hIp6.out.below hb7 (Nat.le_refl _)).more hb7.size)
  have hIq := Lib.hid ((hIq6.out.below hb7 (Nat.le_refl _)).more hb7.size)
  have hIm := Lib.hid ((hIm6.out.below hb7 (Nat.le_refl _)).more hb7.size)
  have hIn := Lib.hid (Ints.of_own hown7 (fun x hx => by have := hM64.out x hx; omega) (by omega))
  have hIv := Lib.hid ((hIa.out.below hB7 (Nat.le_refl _)).more hB7.size)
  have hIw := Lib.hid ((hIo.out.below hB7 (Nat.le_refl _)).more hB7.size)
  have T17 := T16.below hb7 (by omega)
  have T27 := T26.below hb7 (by omega)
  have S17 := S11.out.below hB7 (by omega)
  have S27 := S21.out.below hB7 (by omega)
  have hz7 : w6.heap.size ≤ w7.heap.size := hb7.size
  clear hown7 hb7 hB6 T16 T26 hIp6 hIq6 hIm6 hM64 S11 S21 hIa hIo
  have HSA : Hid (∀ W', Below w7.heap.size w7 W' → Calls Try.prog 16 #[.slice A4 np c4, .slice A5 np c5] W' fun e w' => e = .returned (.bool true) ∧ Below W'.heap.size W' w') := Lib.hid fun W' hW' => by
    have := same_b _ _ A4 A5 np c4 np c5 P P W' (hIp.out.below hW' (Nat.le_refl _)) (hIq.out.below hW' (Nat.le_refl _))
    rwa [show sameL P P = true from decide_eq_true rfl] at this
  have HSB : Hid (∀ W', Below w7.heap.size w7 W' → Calls Try.prog 16 #[.slice A6 nm c6, .slice A7 nm c7] W' fun e w' => e = .returned (.bool true) ∧ Below W'.heap.size W' w') := Lib.hid fun W' hW' => by
    have := same_b _ _ A6 A7 nm c6 nm c7 M M W' (hIm.out.below hW' (Nat.le_refl _)) (hIn.out.below hW' (Nat.le_refl _))
    rwa [show sameL M M = true from decide_eq_true rfl] at this
  have HSC : Hid (∀ W', Below w7.heap.size w7 W' → Calls Try.prog 16 #[.slice A n c, .slice A1 n c1] W' fun e w' => e = .returned (.bool true) ∧ Below W'.heap.size W' w') := Lib.hid fun W' hW' => by
    have := same_b _ _ A A1 n c n c1 v v W' (hIv.out.below hW' (Nat.le_refl _)) (hIw.out.below hW' (Nat.le_refl _))
    rwa [show sameL v v = true from decide_eq_true rfl] at this
  have p0 := T17.c 0 _ rfl
  have p1 := T17.c 1 _ rfl
  have p2 := T27.c 0 _ rfl
  have p3 := T27.c 1 _ rfl
  have p4 := S17.c 0 _ rfl
  have p5 := S17.c 1 _ rfl
  have p6 := S27.c 0 _ rfl
  have p7 := S27.c 1 _ rfl
  have hbw7 : Below w.heap.size w w7 := hB1.trans (hB7.mono (by omega))
  clear hIp hIq hIm hIn hIv hIw T17 T27 S17 S27 hB7 hB1 hPl hMl
  go_wp2_with fail
  go_region_held3 (fun w' => w'.cell? ⟨w2.heap.size, 0, none⟩ = some (.int .i64 tx') ∧ w'.cell? ⟨w2.heap.size, 1, none⟩ = some (.int .i64 ty') ∧ w'.cell? ⟨w3.heap.size, 0, none⟩ = some (.int .i64 tx') ∧ w'.cell? ⟨w3.heap.size, 1, none⟩ = some (.int .i64 ty') ∧ w'.cell? ⟨w.heap.size, 0, none⟩ = some (.int .i64 ax) ∧ w'.cell? ⟨w.heap.size, 1, none⟩ = some (.int .i64 ay) ∧ w'.cell? ⟨w.heap.size + 1, 0, none⟩ = some (.int .i64 bx') ∧ w'.cell? ⟨w.heap.size + 1, 1, none⟩ = some (.int .i64 by''))
    (refine ⟨?_, ?_, ?_, ?_, ?_, ?_, ?_, ?_⟩ <;> (first | with_reducible assumption | (rw [hby.cell (by (try dsimp only); omega)]; with_reducible assumption) | (go_keep; done)))
    (first
      | (go_at_call 15; refine (rows_any _).mono ?_; rintro e wx ⟨rfl, hbx⟩; have hby : Below w7.heap.size w7 wx := by first | exact hby.trans (hbx.mono hby.size) | exact (Below.refl _ w7).drew.trans (hbx.mono (by simp)))
      | (go_at_call_of 16 (Value.slice A4 np c4); refine (HSA.out _ hby).mono ?_; clear HSA; rintro e wx ⟨rfl, hbx⟩; have hby : Below w7.heap.size w7 wx := by first | exact hby.trans (hbx.mono hby.size) | exact (Below.refl _ w7).drew.trans (hbx.mono (by simp)))
      | (go_at_call_of 16 (Value.slice A6 nm c6); refine (HSB.out _ hby).mono ?_; clear HSB; rintro e wx ⟨rfl, hbx⟩; have hby : Below w7.heap.size w7 wx := by first | exact hby.trans (hbx.mono hby.size) | exact (Below.refl _ w7).drew.trans (hbx.mono (by simp)))
      | (go_at_call_of 16 (Value.slice A1 n c1); refine (HSC.out _ hby).mono ?_; clear HSC; rintro e wx ⟨rfl, hbx⟩; have hby : Below w7.heap.size w7 wx := by first | exact hby.trans (hbx.mono hby.size) | exact (Below.refl _ w7).drew.trans (hbx.mono (by simp)))
      | (go_at_call 17; refine (HF1.out _).mono ?_; clear HF1; rintro e wx ⟨rfl, hbx⟩; have hby : Below w7.heap.size w7 wx := by first | exact hby.trans (hbx.mono hby.size) | exact (Below.refl _ w7).drew.trans (hbx.mono (by simp)))
      | (go_at_call 18; refine (HF2.out _).mono ?_; clear HF2; rintro e wx ⟨rfl, hbx⟩; have hby : Below w7.heap.size w7 wx := by first | exact hby.trans (hbx.mono hby.size) | exact (Below.refl _ w7).drew.trans (hbx.mono (by simp))))
  all_goals
    go_wp2_with fail
    go_ret
    exact ⟨rfl, hbw7.trans (hby.mono hbw7.size)⟩

theorem does_law (A : Option Addr) (n c : Nat) (v : List Int) (ww pad x y back : Int) (a b : Pt) (w : World) (hI : Ints w w.heap.size A n v) (bw : i64b ww) (bx : i64b x) (by' : i64b y) (ha : a.b) (hb : b.b) :
    Calls Try.prog 3 #[.int .i64 ww, .int .i64 pad, .slice A n c, .int .i64 x, .int .i64 y, .int .i64 back, ptV a, ptV b] w fun e w' => e = .returned (.bool true) ∧ Below w.heap.size w w' := by
  by_cases h : 80 < n
  · exact does_big A n c ww pad x y back a b w hI.len h
  · exact does_main A n c v ww pad x y back a b w hI (by omega) bw bx by' ha hb
end Go.Proofs.Ytmkmmkpigpbkiaa
