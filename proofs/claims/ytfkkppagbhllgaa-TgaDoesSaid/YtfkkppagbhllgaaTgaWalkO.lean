/-
  THE STEPS OF tga.Get on texts long enough for a head.
-/
import Derived.Test.YtfkkppagbhllgaaTgaWalkN
set_option linter.unusedVariables false
set_option linter.unusedSimpArgs false
set_option maxRecDepth 100000
namespace Go.Proofs.Ytfkkppagbhllgaa
open Go.RowKit

theorem wp_calmB {P : Program} {id : Nat} {c : Code} {K : Act → World → Prop} {Q : Exit → Act → World → Prop} {a : Act} {w : World} (h : c.wp P (Exit.then K fun _ _ _ => False) a w) : c.wp P (Exit.inBlock id (Exit.then K Q)) a w :=
  wp_mono h fun e a w q => by cases e <;> first | exact q | exact q.elim
theorem data_kept {W : World} {D g : Nat} {X : Option Obj} (h : W.heap[D]? = X) (hg : g < D) (j : Nat) (v : Value) : (W.setCell ⟨g, j, none⟩ v).heap[D]? = X := by
  rw [Below.heap_setCell _ _ _ _ (fun e => by simp only at e; omega)]; exact h
set_option maxHeartbeats 12800000 in
theorem get_long (s : List UInt8) (w : World) (hl : s.length ≤ 1000000) (h18 : 18 ≤ s.length) : Calls Try.prog 25 #[.string ⟨s.toArray⟩] w (GetRes s w) := by
  have FIN2 : Hid (∀ w', getT s = none → Below w.heap.size w w' → GetRes s w (.returned (.tuple #[zimV, .int .i64 6])) w') := Lib.hid fun w' h1 h2 => ⟨h2, .inl ⟨h1, rfl⟩⟩
  have FIN1 : Hid (∀ m A n c w', getT s = some m → Byts w' w'.heap.size A n m.d → n ≤ c → c ≤ 9223372036854775807 → Below w.heap.size w w' → GetRes s w (.returned (.tuple #[imV m.w m.h ((8 * m.z : Nat) : Int) A n c, .int .i64 0])) w') := Lib.hid fun m A n c w' h1 h2 h3 h4 h5 => ⟨h5, .inr ⟨m, A, n, c, h1, rfl, h2, h3, h4⟩⟩
  generalize hQ : GetRes s w = Qp at FIN1 FIN2 ⊢
  clear hQ
  have hmf := makes_func
  obtain ⟨h, hh⟩ : ∃ h, h = s.take 18 := ⟨_, rfl⟩
  have hhl : h.length = 18 := by rw [hh, List.length_take]; omega
  have hG := GetAt.new w s 24 29 71
  have KT := Lib.hid (take_ok (w.heap.size + 1 + 1) s 18 18 _ hG.r rfl h18 hl)
  rw [← hh] at KT
  have I12 := fun W => idx_str h 12 12 (by omega) rfl W
  have I13 := fun W => idx_str h 13 13 (by omega) rfl W
  have I14 := fun W => idx_str h 14 14 (by omega) rfl W
  have I15 := fun W => idx_str h 15 15 (by omega) rfl W
  have I16 := fun W => idx_str h 16 16 (by omega) rfl W
  have I2 := fun W => idx_str h 2 2 (by omega) rfl W
  have I17 := fun W => idx_str h 17 17 (by omega) rfl W
  have hG2 := hG.took (s.drop 18)
  unfold strV at KT hG2
  have HG2 := Lib.hid hG2
  have HHS := Lib.hid hh
  clear hG hG2 hh hhl
  go_enter_defers Try.func25, Try.ntmps25
  go_wp2_with fail
  refine KT.out.mono ?_
  clear KT
  rintro e w2 ⟨rfl, rfl⟩
  generalize ((((w.alloc (.cells #[.int .i64 0, .int .i64 0, .int .i64 0, .slice none 0 0] 24)).alloc (.cells #[.int .i64 0] 29)).alloc (.cells #[.string ⟨s.toArray⟩] 71))).setCell ⟨w.heap.size + 1 + 1, 0, none⟩ (.string ⟨(s.drop 18).toArray⟩) = W2 at *
  obtain ⟨x12, h12⟩ : ∃ x, x = (h.getD 12 0).toNat := ⟨_, rfl⟩
  obtain ⟨x13, h13⟩ : ∃ x, x = (h.getD 13 0).toNat := ⟨_, rfl⟩
  obtain ⟨x14, h14⟩ : ∃ x, x = (h.getD 14 0).toNat := ⟨_, rfl⟩
  obtain ⟨x15, h15⟩ : ∃ x, x = (h.getD 15 0).toNat := ⟨_, rfl⟩
  obtain ⟨x16, h16⟩ : ∃ x, x = (h.getD 16 0).toNat := ⟨_, rfl⟩
  have b12 : x12 ≤ 255 := by have := (h.getD 12 0).toNat_lt; omega
  have b13 : x13 ≤ 255 := by have := (h.getD 13 0).toNat_lt; omega
  have b14 : x14 ≤ 255 := by have := (h.getD 14 0).toNat_lt; omega
  have b15 : x15 ≤ 255 := by have := (h.getD 15 0).toNat_lt; omega
  have b16 : x16 ≤ 255 := by have := (h.getD 16 0).toNat_lt; omega
  have o1 := or_shl x12 x13 b12 b13
  have o2 := or_shl x14 x15 b14 b15
  obtain ⟨p, hp⟩ : ∃ p, p = x12 + 256 * x13 := ⟨_, rfl⟩
  obtain ⟨q, hq⟩ : ∃ q, q = x14 + 256 * x15 := ⟨_, rfl⟩
  rw [show (x12 : Int) + 256 * (x13 : Int) = (p : Int) by omega] at o1
  rw [show (x14 : Int) + 256 * (x15 : Int) = (q : Int) by omega] at o2
  obtain ⟨pk, hpk⟩ : ∃ b, b = isPacked s := ⟨_, rfl⟩
  obtain ⟨tp, htp⟩ : ∃ b, b = isTop s := ⟨_, rfl⟩
  have t5 : ((((h.getD 2 0).toNat : Nat) : Int) == 10) = pk := by
    have := u8_eq (h.getD 2 0) 10 (by decide)
    rw [hpk]; unfold isPacked
    rw [← getD_take s 2 (by decide), ← HHS.out]
    exact this
  have t6 : decide (32 ≤ (((h.getD 17 0).toNat : Nat) : Int)) = tp := by
    rw [htp]; unfold isTop
    rw [← getD_take s 17 (by decide), ← HHS.out, decide_eq_decide]; omega
  have HB : Hid (b2 s 12 = p ∧ b2 s 14 = q ∧ bits s = x16) := Lib.hid (by
    unfold b2 bits
    rw [← getD_take s 12 (by decide), ← getD_take s 13 (by decide), ← getD_take s 14 (by decide), ← getD_take s 15 (by decide), ← getD_take s 16 (by decide), ← HHS.out]
    exact ⟨by rw [hp, h12, h13], by rw [hq, h14, h15], h16.symm⟩)
  rw [← h12] at I12
  rw [← h13] at I13
  rw [← h14] at I14
  rw [← h15] at I15
  rw [← h16] at I16
  have hp9 : p ≤ 65535 := by omega
  have hq9 : q ≤ 65535 := by omega
  have HPK := Lib.hid hpk
  have HTP := Lib.hid htp
  clear h12 h13 h14 h15 h16 hp hq hpk htp
  have hb2 : (h.getD 2 0).toNat ≤ 255 := by have := (h.getD 2 0).toNat_lt; omega
  have hb17 : (h.getD 17 0).toNat ≤ 255 := by have := (h.getD 17 0).toNat_lt; omega
  generalize (h.getD 2 0).toNat = x2 at *
  generalize (h.getD 17 0).toNat = x17 at *
  have d0 := HG2.out.m.c 0 _ rfl
  have d1 := HG2.out.m.c 1 _ rfl
  have d2 := HG2.out.m.c 2 _ rfl
  have d3 := HG2.out.m.c 3 _ rfl
  have f0 := HG2.out.m.f 0
  have f1 := HG2.out.m.f 1
  have f2 := HG2.out.m.f 2
  have f3 := HG2.out.m.f 3
  go_wp2_with fail
  refine wp_calm ?_
  go_region
  have HG3 := Lib.hid ((((((((HG2.out.setM 0 (by simp [zim]) (.int .i64 0)).setM 1 (by simp [zim]) (.int .i64 0)).setM 2 (by simp [zim]) (.int .i64 0)).setM 3 (by simp [zim]) (.slice none 0 0)).setM 0 (by simp [zim]) (.int .i64 (p : Int))).setM 1 (by simp [zim]) (.int .i64 (q : Int))).setM 2 (by simp [zim]) (.int .i64 (x16 : Int))).drew)
  replace HG3 : Hid (GetAt w _ [.int .i64 (p : Int), .int .i64 (q : Int), .int .i64 (x16 : Int), .slice none 0 0] 0 (s.drop 18)) := HG3
  clear HG2 d0 d1 d2 d3 f0 f1 f2 f3 I12 I13 I14 I15 I16 o1 o2
  generalize ((((((((W2.setCell ⟨w.heap.size, 0, none⟩ (.int .i64 0)).setCell ⟨w.heap.size, 1, none⟩ (.int .i64 0)).setCell ⟨w.heap.size, 2, none⟩ (.int .i64 0)).setCell ⟨w.heap.size, 3, none⟩ (.slice none 0 0)).setCell ⟨w.heap.size, 0, none⟩ (.int .i64 (p : Int))).setCell ⟨w.heap.size, 1, none⟩ (.int .i64 (q : Int))).setCell ⟨w.heap.size, 2, none⟩ (.int .i64 (x16 : Int))).drew) = W3 at *
  as_aux_lemma =>
  go_wp2_with fail
  refine wp_calm ?_
  go_region
  have HG4 := Lib.hid HG3.out.drew
  generalize W3.drew = W4 at *
  clear HG3 t5 t6 I2 I17 hb2 hb17
  have KF := Lib.hid (form_any p q x16 none 0 0 W4)
  have d0 := HG4.out.m.c 0 _ rfl
  have d1 := HG4.out.m.c 1 _ rfl
  have d2 := HG4.out.m.c 2 _ rfl
  have d3 := HG4.out.m.c 3 _ rfl
  unfold imV at KF
  as_aux_lemma =>
  cases hf : formT p q x16 with
  | false =>
    have HN : Hid (getT s = none) := Lib.hid (by
      unfold getT headOk
      rw [HB.out.1, HB.out.2.1, HB.out.2.2, hf, if_neg (by omega)]; simp)
    have KM := Lib.hid must_bad
    unfold Thrown at KM
    rw [hf] at KF
    clear hf
    as_aux_lemma =>
    go_wp2_with fail
    refine KF.out.mono ?_
    clear KF
    rintro e w5 ⟨rfl, hb5⟩
    have HGT := Lib.hid (HG4.out.grown hb5)
    have HGE := Lib.hid HGT.out.weak
    clear hb5 d0 d1 d2 d3 HG4
    as_aux_lemma =>
    go_wp2_with fail
    refine (KM.out _).mono ?_
    clear KM
    rintro e w6 ⟨rfl, rfl⟩
    as_aux_lemma =>
    go_wp2_with fail
    as_aux_lemma =>
    have HE1 := Lib.hid (HGE.out.setE 6)
    have HE2 := Lib.hid ((((HE1.out.setM 0 (by simp [zim]) (.int .i64 0)).setM 1 (by simp [zim]) (.int .i64 0)).setM 2 (by simp [zim]) (.int .i64 0)).setM 3 (by simp [zim]) (.slice none 0 0))
    as_aux_lemma =>
    refine leaves_cons (f := 42) (args := #[.pointer (some ⟨w.heap.size + 1, 0, none⟩), .func (.func 46) #[] #[.pointer (some ⟨w.heap.size, 0, none⟩)]]) (by simp) (by simp [go_sem]) ?_
    refine (caught_g (w.heap.size + 1) w.heap.size 6 [] _ _ (.int .i64 0) (HGE.out.e.c 0 _ rfl) (HGE.out.e.f 0) (clearG w.heap.size _ _ HE1.out.m rfl)).mono ?_
    rintro e u' w'' ⟨rfl, rfl, rfl⟩
    have HF := HE2.out
    clear HE1 HE2 HGE
    generalize World.setCell _ ⟨w.heap.size, 3, none⟩ (.slice none 0 0) = V at *
    have e0 := HF.m.c 0 _ rfl
    have e1 := HF.m.c 1 _ rfl
    have e2 := HF.m.c 2 _ rfl
    have e3 := HF.m.c 3 _ rfl
    have e4 := HF.e.c 0 _ rfl
    as_aux_lemma =>
    refine ⟨.tuple #[zimV, .int .i64 6], ?_, FIN2.out _ HN.out HF.below⟩
    simp [results, Try.results25, go_sem, e0, e1, e2, e3, e4, zimV]
  | true =>
    rw [hf] at KF
    have hf2 := hf
    unfold formT at hf2
    rw [decide_eq_true_iff] at hf2
    obtain ⟨g1, g2, g3, g4, g5⟩ := hf2
    have hz9 : x16 / 8 = 3 ∨ x16 / 8 = 4 := by omega
    obtain ⟨z, hz, hzx⟩ : ∃ z, (z = 3 ∨ z = 4) ∧ x16 = 8 * z := ⟨x16 / 8, hz9, by omega⟩
    have hp1 : 1 ≤ p := by omega
    have hp2 : p ≤ 256 := by omega
    have hq1 : 1 ≤ q := by omega
    have hq2 : q ≤ 256 := by omega
    have KH := Lib.hid (fun W => head_any p q z none 0 0 pk tp W hp2 hq2 hz)
    rw [← hzx] at KH
    obtain ⟨ok, hok⟩ : ∃ ok, ok = (h == headT p q z pk tp) := ⟨_, rfl⟩
    have HHO : Hid (headOk s = ok) := Lib.hid (by
      unfold headOk
      rw [HB.out.1, HB.out.2.1, HB.out.2.2, hf, ← HHS.out, ← HPK.out, ← HTP.out, hok, hzx, Nat.mul_div_cancel_left _ (by omega : 0 < 8)]
      simp)
    have HOK := Lib.hid hok
    have HZX := Lib.hid hzx
    unfold SR imV at KH
    clear hf g1 g2 g3 g4 g5 hz9 hok hzx
    as_aux_lemma =>
    go_wp2_with fail
    refine KF.out.mono ?_
    clear KF
    rintro e w5 ⟨rfl, hb5⟩
    have HG5 := Lib.hid (HG4.out.grown hb5)
    clear hb5 d0 d1 d2 d3 HG4
    have d0 := HG5.out.m.c 0 _ rfl
    have d1 := HG5.out.m.c 1 _ rfl
    have d2 := HG5.out.m.c 2 _ rfl
    have d3 := HG5.out.m.c 3 _ rfl
    as_aux_lemma =>
    go_wp2_with fail
    refine (KH.out _).mono ?_
    clear KH
    rintro e w6 ⟨rfl, hb6⟩
    have HG6 := Lib.hid (HG5.out.grown hb6)
    clear hb6 d0 d1 d2 d3 HG5
    cases ok with
    | false =>
      have hok2 : (h == headT p q z pk tp) = false := HOK.out.symm
      have HN : Hid (getT s = none) := Lib.hid (by
        unfold getT
        rw [HHO.out, if_neg (by omega)]; simp)
      have KM := Lib.hid must_bad
      unfold Thrown at KM
      have HGE := Lib.hid HG6.out.weak
      clear HG6
      as_aux_lemma =>
      go_wp2_with fail
      refine (KM.out _).mono ?_
      clear KM
      rintro e w7 ⟨rfl, rfl⟩
      as_aux_lemma =>
      go_wp2_with fail
      as_aux_lemma =>
      have HE1 := Lib.hid (HGE.out.setE 6)
      have HE2 := Lib.hid ((((HE1.out.setM 0 (by simp [zim]) (.int .i64 0)).setM 1 (by simp [zim]) (.int .i64 0)).setM 2 (by simp [zim]) (.int .i64 0)).setM 3 (by simp [zim]) (.slice none 0 0))
      as_aux_lemma =>
      refine leaves_cons (f := 42) (args := #[.pointer (some ⟨w.heap.size + 1, 0, none⟩), .func (.func 46) #[] #[.pointer (some ⟨w.heap.size, 0, none⟩)]]) (by simp) (by simp [go_sem]) ?_
      refine (caught_g (w.heap.size + 1) w.heap.size 6 [] _ _ (.int .i64 0) (HGE.out.e.c 0 _ rfl) (HGE.out.e.f 0) (clearG w.heap.size _ _ HE1.out.m rfl)).mono ?_
      rintro e u' w'' ⟨rfl, rfl, rfl⟩
      have HF := HE2.out
      clear HE1 HE2 HGE
      generalize World.setCell _ ⟨w.heap.size, 3, none⟩ (.slice none 0 0) = V at *
      have e0 := HF.m.c 0 _ rfl
      have e1 := HF.m.c 1 _ rfl
      have e2 := HF.m.c 2 _ rfl
      have e3 := HF.m.c 3 _ rfl
      have e4 := HF.e.c 0 _ rfl
      as_aux_lemma =>
      refine ⟨.tuple #[zimV, .int .i64 6], ?_, FIN2.out _ HN.out HF.below⟩
      simp [results, Try.results25, go_sem, e0, e1, e2, e3, e4, zimV]
    | true =>
      have hok2 : (h == headT p q z pk tp) = true := HOK.out.symm
      have HSPEC : Hid (getT s = match rowsT pk z p q (s.drop 18) with | none => none | some o => if o.2 = footT then some ⟨p, q, z, dataT z tp o.1⟩ else none) := Lib.hid (by
        unfold getT
        rw [HHO.out, if_neg (by omega), if_pos rfl, HB.out.1, HB.out.2.1, HB.out.2.2, HZX.out, Nat.mul_div_cancel_left _ (by omega : 0 < 8), ← HPK.out, ← HTP.out]
        cases rowsT pk z p q (s.drop 18) <;> rfl)
      have KM := Lib.hid must_ok
      as_aux_lemma =>
      go_wp2_with fail
      refine (KM.out _).mono ?_
      clear KM
      rintro e w7 ⟨rfl, rfl⟩
      have td : ((x16 : Nat) : Int).tdiv 8 = (z : Int) := by rw [Int.tdiv_eq_ediv_of_nonneg (by omega)]; have := HZX.out; omega
      obtain ⟨X, hX⟩ : ∃ X, X = p * q := ⟨_, rfl⟩
      obtain ⟨n, hn⟩ : ∃ n, n = p * q * z := ⟨_, rfl⟩
      have em : (p : Int) * (q : Int) = (X : Int) := by rw [hX]; simp
      have em2 : (X : Int) * (z : Int) = (n : Int) := by rw [hX, hn]; simp
      have hXb : X ≤ 65536 := by rw [hX]; exact Nat.mul_le_mul hp2 hq2
      have hnb : n ≤ 262144 := by rw [hn, ← hX]; exact Nat.le_trans (Nat.mul_le_mul hXb (show z ≤ 4 by omega)) (by decide)
      have hmk := run_make_row' (P := Try.prog) 22 5 (.int .u8 0) 1 Try.underlying22 size_u8 rfl .i64 .i64 n (by omega) (by omega) w7
      obtain ⟨pz, hpz⟩ : ∃ pz, pz = p * z := ⟨_, rfl⟩
      have HPZ := Lib.hid hpz
      have hpz0 : 0 < pz := by rw [hpz]; exact Nat.mul_pos (by omega) (by omega)
      have hpz2 : pz ≤ 1024 := by rw [hpz]; have := Nat.mul_le_mul hp2 (show z ≤ 4 by omega); omega
      have ezp : (z : Int) * (p : Int) = (pz : Int) := by rw [hpz]; simp [Int.mul_comm]
      have HNQ : Hid (n = q * pz) := Lib.hid (by rw [hn, hpz, Nat.mul_comm p q, Nat.mul_assoc])
      clear hX hn hpz
      have d0 := HG6.out.m.c 0 _ rfl
      have d1 := HG6.out.m.c 1 _ rfl
      have d2 := HG6.out.m.c 2 _ rfl
      have hb8 : Below w7.heap.size w7 (w7.alloc (.cells (madeCells #[.int .u8 0] n) 5)) := (Below.refl _ _).alloc (Nat.le_refl _) _
      have hG7 := HG6.out.grown hb8
      have hd7 : (w7.alloc (.cells (madeCells #[.int .u8 0] n) 5)).heap[w7.heap.size]? = some (.cells (Lib.byteCells (List.replicate n 0)).toArray 5 (0, 0)) := by rw [← made_bytes]; exact heap_alloc_new _ _
      have hl1 : w.heap.size + 3 ≤ w7.heap.size := HG6.out.size
      have e1 := hG7.m.c 1 _ rfl
      have e3 := hG7.m.c 3 _ rfl
      have k3 := hG7.m.f 3
      obtain ⟨D, hD⟩ : ∃ D, D = w7.heap.size := ⟨_, rfl⟩
      rw [← hD] at hmk hd7 hl1
      generalize w7.alloc (.cells (madeCells #[.int .u8 0] n) 5) = W8 at *
      have HG8 : Hid (GetAt w (W8.setCell ⟨w.heap.size, 3, none⟩ (.slice (some ⟨D, 0, none⟩) n n)) [.int .i64 (p : Int), .int .i64 (q : Int), .int .i64 ((8 * z : Nat) : Int), .slice (some ⟨D, 0, none⟩) n n] 0 (s.drop 18)) := Lib.hid (by rw [← HZX.out]; exact hG7.setM 3 (by simp) _)
      have HD8 : Hid ((W8.setCell ⟨w.heap.size, 3, none⟩ (.slice (some ⟨D, 0, none⟩) n n)).heap[D]? = some (.cells (Lib.byteCells (contT z pz q tp [])).toArray 5 (0, 0))) := Lib.hid (by
        rw [cont_zero, ← HNQ.out, Below.heap_setCell _ _ _ _ (fun e => by simp only at e; omega)]; exact hd7)
      have KO := Lib.hid (fun W => order_any q tp W hq1 hq2)
      have HL1 := Lib.hid hl1
      clear hG7 hd7 hl1 hb8 hD HG6
      as_aux_lemma =>
      go_wp2_with fail
      generalize W8.setCell ⟨w.heap.size, 3, none⟩ (.slice (some ⟨D, 0, none⟩) n n) = W9 at *
      refine (KO.out _).mono ?_
      clear KO
      rintro e V4 ⟨Ao, co, rfl, hro, hb4⟩
      obtain ⟨g, rfl, hg1, hg2, hg3, _⟩ := own_cells hro (by omega)
      have HGT0 := Lib.hid (GtAt.start HG8.out HD8.out HL1.out hb4 hro hg1)
      clear hro hb4 hg1 hg2 HG8 HD8 d0 d1 d2 e1 e3 k3 hmk td em em2
      generalize W9.heap.size = base at *
      as_aux_lemma =>
      go_wp2_with fail
      go_loopw [74] (fun i wr => ∃ (k : Nat) (rs : List (List UInt8)) (rest : List UInt8), k ≤ q ∧ i = .int .i64 (k : Int) ∧ rs.length = k ∧ Hid (GtAt w wr D g co base p q z tp n (contT z pz q tp rs) rest) ∧ Hid (RdSt pk z p q (s.drop 18) rs rest) ∧ rest.length ≤ 1000000) (fun i _ => q - (intOf i).toNat)
      case atStart => exact ⟨0, [], s.drop 18, by omega, rfl, rfl, HGT0, Lib.hid (RdSt.start _ _ _ _ _), by rw [List.length_drop]; omega⟩
      case round =>
        clear HGT0
        obtain ⟨k, rs, rest, hk, rfl, hrk, HGT, HRD, hrl⟩ := hrel
        by_cases hlt : k < q
        · have t0 : decide ((k : Int) < (q : Int)) = true := decide_eq_true (by omega)
          have k0 : (0 : Int) ≤ (k : Int) := by omega
          have k1 : (k : Int) < (q : Int) := by omega
          obtain ⟨y, hy⟩ : ∃ y, y = ordT q tp k := ⟨_, rfl⟩
          have hyq : y < q := by rw [hy]; exact ordT_lt tp hlt
          have a0 : (⟨g, 0, none⟩ : Addr).add k = ⟨g, k, none⟩ := addr_lit _ _
          have cy : wr.cell? ⟨g, k, none⟩ = some (.int .i64 (y : Int)) := by
            have := HGT.out.r.cells (g := g) rfl k (.int .i64 (y : Int)) (by rw [cellsI_get]; unfold ordL; rw [List.getElem?_map, List.getElem?_range hlt, hy]; rfl)
            rwa [a0] at this
          have d0 := HGT.out.a.m.c 0 _ rfl
          have hsz := HGT.out.a.size
          have HY := Lib.hid hy; clear hy
          cases pk with
          | true =>
            cases ht : takeRow true z p rest with
            | none =>
              have HN : Hid (getT s = none) := Lib.hid (by rw [HSPEC.out, HRD.out.none (by omega) ht])
              have hu : unpackT z p rest = none := by unfold takeRow at ht; simpa using ht
              have HU := Lib.hid hu
              clear ht hu
              have KU := Lib.hid (unpack_any (w.heap.size + 1 + 1) z p rest wr HGT.out.a.r (by omega) hz hrl hp2)
              as_aux_lemma =>
              go_wp2_with fail
              refine KU.out.mono ?_
              clear KU
              rintro e wq ⟨hgr, _, hth⟩
              obtain rfl := hth HU.out
              have HGE := Lib.hid (HGT.out.a.threw hgr)
              clear hgr hth d0 cy hsz
              unfold Thrown
              as_aux_lemma =>
              go_wp2_with fail
              as_aux_lemma =>
              have HE1 := Lib.hid (HGE.out.setE 6)
              have HE2 := Lib.hid ((((HE1.out.setM 0 (by simp [zim]) (.int .i64 0)).setM 1 (by simp [zim]) (.int .i64 0)).setM 2 (by simp [zim]) (.int .i64 0)).setM 3 (by simp [zim]) (.slice none 0 0))
              as_aux_lemma =>
              refine leaves_cons (f := 42) (args := #[.pointer (some ⟨w.heap.size + 1, 0, none⟩), .func (.func 46) #[] #[.pointer (some ⟨w.heap.size, 0, none⟩)]]) (by simp) (by simp [go_sem]) ?_
              refine (caught_g (w.heap.size + 1) w.heap.size 6 [] _ _ (.int .i64 0) (HGE.out.e.c 0 _ rfl) (HGE.out.e.f 0) (clearG w.heap.size _ _ HE1.out.m rfl)).mono ?_
              rintro e u' w'' ⟨rfl, rfl, rfl⟩
              have HF := HE2.out
              clear HE1 HE2 HGE
              generalize World.setCell _ ⟨w.heap.size, 3, none⟩ (.slice none 0 0) = V at *
              have e0 := HF.m.c 0 _ rfl
              have e1 := HF.m.c 1 _ rfl
              have e2 := HF.m.c 2 _ rfl
              have e3 := HF.m.c 3 _ rfl
              have e4 := HF.e.c 0 _ rfl
              as_aux_lemma =>
              refine ⟨.tuple #[zimV, .int .i64 6], ?_, FIN2.out _ HN.out HF.below⟩
              simp [results, Try.results25, go_sem, e0, e1, e2, e3, e4, zimV]
            | some o =>
              have HRD2 := Lib.hid (HRD.out.some (by omega) (by omega) ht)
              have hu : unpackT z p rest = some o := by unfold takeRow at ht; simpa using ht
              have hol : o.1.length = pz := by rw [HPZ.out]; exact takeRow_out (by omega) ht
              have hrl2 : o.2.length ≤ 1000000 := Nat.le_trans (unpack_left _ _ _ hu) hrl
              have HU := Lib.hid hu
              clear ht hu
              have KU := Lib.hid (unpack_any (w.heap.size + 1 + 1) z p rest wr HGT.out.a.r (by omega) hz hrl hp2)
              as_aux_lemma =>
              go_wp2_with fail
              refine KU.out.mono ?_
              clear KU
              rintro e wq ⟨hgr, hok, _⟩
              obtain ⟨rfl, hsl⟩ := hok _ HU.out
              have HGT := Lib.hid (HGT.out.read hgr hsl)
              obtain ⟨t, rest2⟩ := o
              clear hgr hok hsl d0 cy hsz HU
              unfold strV
              have htl : t.length = pz := hol
              have d0 := HGT.out.a.m.c 0 _ rfl
              have d3 := HGT.out.a.m.c 3 _ rfl
              obtain ⟨yp, hyp⟩ : ∃ yp, yp = y * p := ⟨_, rfl⟩
              obtain ⟨i0, hi0⟩ : ∃ i0, i0 = y * pz := ⟨_, rfl⟩
              have hi1 : i0 + pz ≤ n := by rw [hi0, HNQ.out, ← Nat.succ_mul]; exact Nat.mul_le_mul_right _ hyq
              have ey1 : (y : Int) * (p : Int) = (yp : Int) := by rw [hyp]; simp
              have ey2 : (yp : Int) * (z : Int) = (i0 : Int) := by rw [hyp, hi0, HPZ.out]; simp [Int.mul_assoc]
              have hyp9 : yp ≤ 65536 := by rw [hyp]; have := Nat.mul_le_mul (show y ≤ 256 by omega) hp2; omega
              have w1' : IntKind.i64.wrap (yp : Int) = (yp : Int) := by rw [IntKind.wrap_i64]; omega
              have w2' : IntKind.i64.wrap (i0 : Int) = (i0 : Int) := by rw [IntKind.wrap_i64]; omega
              have hXl : (contT z pz q tp rs).length = n := by rw [HNQ.out]; exact cont_len (by rw [HPZ.out]; exact HRD.out.2.1) (by omega)
              have HST : Hid ((contT z pz q tp rs).take i0 ++ turnedT z t ++ (contT z pz q tp rs).drop (i0 + (turnedT z t).length) = contT z pz q tp (rs ++ [t])) := Lib.hid (by
                rw [turnedT_len, htl, hi0, HY.out, ← hrk]
                exact cont_step (by rw [HPZ.out]; exact HRD.out.2.1) (by omega) htl)
              have htt : (turnedT z t).length = pz := by rw [turnedT_len]; exact htl
              have KT := Lib.hid (fun W => turned_any z p t W hz (by omega) (by rw [htl, HPZ.out]) hp1)
              generalize contT z pz q tp rs = X at *
              obtain ⟨Y, hY⟩ : ∃ Y, Y = X.take i0 ++ turnedT z t ++ X.drop (i0 + (turnedT z t).length) := ⟨_, rfl⟩
              rw [← hY] at HST
              have HYY := Lib.hid hY
              clear hY
              clear hyp hi0
              have HTT := Lib.hid htt
              have HXL := Lib.hid hXl
              clear hol htl htt hXl
              have hci : ¬ n = i0 := by omega
              have b0 : (0 : Int) ≤ (i0 : Int) := by omega
              have b1 : (i0 : Int) ≤ (n : Int) := by omega
              have a1 : (⟨D, 0, none⟩ : Addr).add i0 = ⟨D, i0, none⟩ := addr_lit _ _
              have HPX := HGT
              unfold SR at KT
              as_aux_lemma =>
              go_wp2_with fail
              refine wp_calmB ?_
              go_region_held3 (fun w' => w'.cell? ⟨w.heap.size, 3, none⟩ = some (.slice (some ⟨D, 0, none⟩) n n) ∧ w'.cell? ⟨w.heap.size, 0, none⟩ = some (.int .i64 (p : Int)))
                (refine ⟨?_, ?_⟩ <;> (first | with_reducible assumption | exact HPX.out.a.m.c 3 _ rfl | exact HPX.out.a.m.c 0 _ rfl | exact HPY.out.a.m.c 3 _ rfl | exact HPY.out.a.m.c 0 _ rfl))
                (first | (go_at_call 33; refine (KT.out _).mono ?_; clear KT; rintro e wx ⟨rfl, hbx⟩; have HPX := Lib.hid (HPX.out.grown ((Below.refl _ _).drew.trans (hbx.mono (by simp)))); have cp := fun ty => copy_at wx D i0 (n - i0) X (turnedT z t) ty HPX.out.d (by have := HTT.out; omega) (by have := HTT.out; have := HXL.out; omega); rw [← HYY.out] at cp; have HPY := Lib.hid (HPX.out.laid Y)))
              go_wp2_with fail
              go_roundw
              case rel => exact ⟨k + 1, rs ++ [t], rest2, by omega, by go_num, by simp; omega, Lib.hid (by rw [← HST.out]; exact HPY.out), HRD2, hrl2⟩
              case measure => simp only [intOf]; omega
          | false =>
            by_cases ht9 : rest.length < pz
            · have HN : Hid (getT s = none) := Lib.hid (by rw [HSPEC.out, HRD.out.none (by omega) (by unfold takeRow; rw [if_neg (by simp), if_pos (by rw [Nat.mul_comm z p, ← HPZ.out]; exact ht9)])])
              have KT := Lib.hid (take_bad (w.heap.size + 1 + 1) rest (pz : Int) wr HGT.out.a.r (by omega) hrl)
              unfold Thrown at KT
              clear ht9
              as_aux_lemma =>
              go_wp2_with fail
              refine KT.out.mono ?_
              clear KT
              rintro e wq ⟨rfl, rfl⟩
              have HGE := Lib.hid HGT.out.a.weak
              clear d0 cy hsz
              as_aux_lemma =>
              go_wp2_with fail
              as_aux_lemma =>
              have HE1 := Lib.hid (HGE.out.setE 6)
              have HE2 := Lib.hid ((((HE1.out.setM 0 (by simp [zim]) (.int .i64 0)).setM 1 (by simp [zim]) (.int .i64 0)).setM 2 (by simp [zim]) (.int .i64 0)).setM 3 (by simp [zim]) (.slice none 0 0))
              as_aux_lemma =>
              refine leaves_cons (f := 42) (args := #[.pointer (some ⟨w.heap.size + 1, 0, none⟩), .func (.func 46) #[] #[.pointer (some ⟨w.heap.size, 0, none⟩)]]) (by simp) (by simp [go_sem]) ?_
              refine (caught_g (w.heap.size + 1) w.heap.size 6 [] _ _ (.int .i64 0) (HGE.out.e.c 0 _ rfl) (HGE.out.e.f 0) (clearG w.heap.size _ _ HE1.out.m rfl)).mono ?_
              rintro e u' w'' ⟨rfl, rfl, rfl⟩
              have HF := HE2.out
              clear HE1 HE2 HGE
              generalize World.setCell _ ⟨w.heap.size, 3, none⟩ (.slice none 0 0) = V at *
              have e0 := HF.m.c 0 _ rfl
              have e1 := HF.m.c 1 _ rfl
              have e2 := HF.m.c 2 _ rfl
              have e3 := HF.m.c 3 _ rfl
              have e4 := HF.e.c 0 _ rfl
              as_aux_lemma =>
              refine ⟨.tuple #[zimV, .int .i64 6], ?_, FIN2.out _ HN.out HF.below⟩
              simp [results, Try.results25, go_sem, e0, e1, e2, e3, e4, zimV]
            · have HRD2 := Lib.hid (HRD.out.some (o := (rest.take pz, rest.drop pz)) (by omega) (by omega) (by unfold takeRow; rw [if_neg (by simp), Nat.mul_comm z p, ← HPZ.out, if_neg ht9]))
              have hol : (rest.take pz).length = pz := by rw [List.length_take]; omega
              have hrl2 : (rest.drop pz).length ≤ 1000000 := by rw [List.length_drop]; omega
              have KT := Lib.hid (take_ok (w.heap.size + 1 + 1) rest (pz : Int) pz wr HGT.out.a.r rfl (by omega) hrl)
              have HGT2 := Lib.hid (HGT.out.took (rest.drop pz))
              unfold strV at KT HGT2
              generalize wr.setCell ⟨w.heap.size + 1 + 1, 0, none⟩ (.string ⟨(rest.drop pz).toArray⟩) = wq at *
              generalize rest.drop pz = rest2 at *
              generalize rest.take pz = t at *
              clear ht9
              as_aux_lemma =>
              go_wp2_with fail
              refine KT.out.mono ?_
              clear KT
              rintro e _ ⟨rfl, rfl⟩
              have HGT := HGT2
              clear d0 cy hsz HGT2
              have htl : t.length = pz := hol
              have d0 := HGT.out.a.m.c 0 _ rfl
              have d3 := HGT.out.a.m.c 3 _ rfl
              obtain ⟨yp, hyp⟩ : ∃ yp, yp = y * p := ⟨_, rfl⟩
              obtain ⟨i0, hi0⟩ : ∃ i0, i0 = y * pz := ⟨_, rfl⟩
              have hi1 : i0 + pz ≤ n := by rw [hi0, HNQ.out, ← Nat.succ_mul]; exact Nat.mul_le_mul_right _ hyq
              have ey1 : (y : Int) * (p : Int) = (yp : Int) := by rw [hyp]; simp
              have ey2 : (yp : Int) * (z : Int) = (i0 : Int) := by rw [hyp, hi0, HPZ.out]; simp [Int.mul_assoc]
              have hyp9 : yp ≤ 65536 := by rw [hyp]; have := Nat.mul_le_mul (show y ≤ 256 by omega) hp2; omega
              have w1' : IntKind.i64.wrap (yp : Int) = (yp : Int) := by rw [IntKind.wrap_i64]; omega
              have w2' : IntKind.i64.wrap (i0 : Int) = (i0 : Int) := by rw [IntKind.wrap_i64]; omega
              have hXl : (contT z pz q tp rs).length = n := by rw [HNQ.out]; exact cont_len (by rw [HPZ.out]; exact HRD.out.2.1) (by omega)
              have HST : Hid ((contT z pz q tp rs).take i0 ++ turnedT z t ++ (contT z pz q tp rs).drop (i0 + (turnedT z t).length) = contT z pz q tp (rs ++ [t])) := Lib.hid (by
                rw [turnedT_len, htl, hi0, HY.out, ← hrk]
                exact cont_step (by rw [HPZ.out]; exact HRD.out.2.1) (by omega) htl)
              have htt : (turnedT z t).length = pz := by rw [turnedT_len]; exact htl
              have KT := Lib.hid (fun W => turned_any z p t W hz (by omega) (by rw [htl, HPZ.out]) hp1)
              generalize contT z pz q tp rs = X at *
              obtain ⟨Y, hY⟩ : ∃ Y, Y = X.take i0 ++ turnedT z t ++ X.drop (i0 + (turnedT z t).length) := ⟨_, rfl⟩
              rw [← hY] at HST
              have HYY := Lib.hid hY
              clear hY
              clear hyp hi0
              have HTT := Lib.hid htt
              have HXL := Lib.hid hXl
              clear hol htl htt hXl
              have hci : ¬ n = i0 := by omega
              have b0 : (0 : Int) ≤ (i0 : Int) := by omega
              have b1 : (i0 : Int) ≤ (n : Int) := by omega
              have a1 : (⟨D, 0, none⟩ : Addr).add i0 = ⟨D, i0, none⟩ := addr_lit _ _
              have HPX := HGT
              unfold SR at KT
              as_aux_lemma =>
              go_wp2_with fail
              refine wp_calmB ?_
              go_region_held3 (fun w' => w'.cell? ⟨w.heap.size, 3, none⟩ = some (.slice (some ⟨D, 0, none⟩) n n) ∧ w'.cell? ⟨w.heap.size, 0, none⟩ = some (.int .i64 (p : Int)))
                (refine ⟨?_, ?_⟩ <;> (first | with_reducible assumption | exact HPX.out.a.m.c 3 _ rfl | exact HPX.out.a.m.c 0 _ rfl | exact HPY.out.a.m.c 3 _ rfl | exact HPY.out.a.m.c 0 _ rfl))
                (first | (go_at_call 33; refine (KT.out _).mono ?_; clear KT; rintro e wx ⟨rfl, hbx⟩; have HPX := Lib.hid (HPX.out.grown ((Below.refl _ _).drew.trans (hbx.mono (by simp)))); have cp := fun ty => copy_at wx D i0 (n - i0) X (turnedT z t) ty HPX.out.d (by have := HTT.out; omega) (by have := HTT.out; have := HXL.out; omega); rw [← HYY.out] at cp; have HPY := Lib.hid (HPX.out.laid Y)))
              go_wp2_with fail
              go_roundw
              case rel => exact ⟨k + 1, rs ++ [t], rest2, by omega, by go_num, by simp; omega, Lib.hid (by rw [← HST.out]; exact HPY.out), HRD2, hrl2⟩
              case measure => simp only [intOf]; omega
        · have t0 : decide ((k : Int) < (q : Int)) = false := decide_eq_false (by omega)
          have hkq : k = q := by omega
          have HROWS := Lib.hid (HRD.out.done (by omega))
          have d0 := HGT.out.a.r.c 0 _ rfl
          unfold strV at d0
          cases hft : (rest == footT) with
          | false =>
            have HN : Hid (getT s = none) := Lib.hid (by rw [HSPEC.out, HROWS.out]; simp only; rw [if_neg (by simpa using hft)])
            have KM := Lib.hid must_bad
            unfold Thrown at KM
            unfold footT at hft
            have HGE := Lib.hid HGT.out.a.weak
            as_aux_lemma =>
            go_wp2_with fail
            refine (KM.out _).mono ?_
            clear KM
            rintro e w8 ⟨rfl, rfl⟩
            clear hft d0
            as_aux_lemma =>
            go_wp2_with fail
            as_aux_lemma =>
            have HE1 := Lib.hid (HGE.out.setE 6)
            have HE2 := Lib.hid ((((HE1.out.setM 0 (by simp [zim]) (.int .i64 0)).setM 1 (by simp [zim]) (.int .i64 0)).setM 2 (by simp [zim]) (.int .i64 0)).setM 3 (by simp [zim]) (.slice none 0 0))
            as_aux_lemma =>
            refine leaves_cons (f := 42) (args := #[.pointer (some ⟨w.heap.size + 1, 0, none⟩), .func (.func 46) #[] #[.pointer (some ⟨w.heap.size, 0, none⟩)]]) (by simp) (by simp [go_sem]) ?_
            refine (caught_g (w.heap.size + 1) w.heap.size 6 [] _ _ (.int .i64 0) (HGE.out.e.c 0 _ rfl) (HGE.out.e.f 0) (clearG w.heap.size _ _ HE1.out.m rfl)).mono ?_
            rintro e u' w'' ⟨rfl, rfl, rfl⟩
            have HF := HE2.out
            clear HE1 HE2 HGE
            generalize World.setCell _ ⟨w.heap.size, 3, none⟩ (.slice none 0 0) = V at *
            have e0 := HF.m.c 0 _ rfl
            have e1 := HF.m.c 1 _ rfl
            have e2 := HF.m.c 2 _ rfl
            have e3 := HF.m.c 3 _ rfl
            have e4 := HF.e.c 0 _ rfl
            as_aux_lemma =>
            refine ⟨.tuple #[zimV, .int .i64 6], ?_, FIN2.out _ HN.out HF.below⟩
            simp [results, Try.results25, go_sem, e0, e1, e2, e3, e4, zimV]
          | true =>
            have HGETS : Hid (getT s = some ⟨p, q, z, dataT z tp rs⟩) := Lib.hid (by rw [HSPEC.out, HROWS.out]; simp only; rw [if_pos (by simpa using hft)])
            have F1 : Hid (∀ w', Byts w' w'.heap.size (some ⟨D, 0, none⟩) n (dataT z tp rs) → Below w.heap.size w w' → Qp (.returned (.tuple #[imV p q ((8 * z : Nat) : Int) (some ⟨D, 0, none⟩) n n, .int .i64 0])) w') := Lib.hid fun w' h1 h2 => FIN1.out ⟨p, q, z, _⟩ _ _ _ _ HGETS.out h1 (Nat.le_refl _) (by omega) h2
            have hdl : (dataT z tp rs).length = n := by rw [← cont_done (n := pz) (q := q) (by omega), HNQ.out]; exact cont_len (by rw [HPZ.out]; exact HRD.out.2.1) (by omega)
            have HDD := Lib.hid HGT.out.d
            rw [cont_done (by omega)] at HDD
            have HDL := Lib.hid hdl; clear hdl
            have HA := Lib.hid HGT.out.a
            have HLD := Lib.hid HGT.out.l1
            generalize ((8 * z : Nat) : Int) = zz at F1 HA
            have KM := Lib.hid must_ok
            unfold footT at hft
            as_aux_lemma =>
            go_wp2_with fail
            refine (KM.out _).mono ?_
            clear KM
            rintro e w8 ⟨rfl, rfl⟩
            clear hft d0
            have d0 := HA.out.m.c 0 _ rfl
            have d1 := HA.out.m.c 1 _ rfl
            have d2 := HA.out.m.c 2 _ rfl
            have d3 := HA.out.m.c 3 _ rfl
            have f0 := HA.out.m.f 0
            have f1 := HA.out.m.f 1
            have f2 := HA.out.m.f 2
            have f3 := HA.out.m.f 3
            have d4 := HA.out.e.c 0 _ rfl
            have f4 := HA.out.e.f 0
            as_aux_lemma =>
            go_wp2_with fail
            as_aux_lemma =>
            have HF := Lib.hid (((((HA.out.setM 0 (by simp) (.int .i64 (p : Int))).setM 1 (by simp) (.int .i64 (q : Int))).setM 2 (by simp) (.int .i64 zz)).setM 3 (by simp) (.slice (some ⟨D, 0, none⟩) n n)).setE 0)
            replace HF : Hid (GetAt w _ [.int .i64 (p : Int), .int .i64 (q : Int), .int .i64 zz, .slice (some ⟨D, 0, none⟩) n n] 0 rest) := HF
            have hld1 : w.heap.size < D := Nat.lt_of_lt_of_le (by simp) HLD.out
            have hld2 : w.heap.size + 1 < D := Nat.lt_of_lt_of_le (by simp) HLD.out
            have hd1 := data_kept HDD.out hld1 0 (.int .i64 (p : Int))
            have hd2 := data_kept hd1 hld1 1 (.int .i64 (q : Int))
            have hd3 := data_kept hd2 hld1 2 (.int .i64 zz)
            have hd4 := data_kept hd3 hld1 3 (.slice (some ⟨D, 0, none⟩) n n)
            have HDF := Lib.hid (data_kept hd4 hld2 0 (.int .i64 0))
            clear hd1 hd2 hd3 hd4 hld1 hld2 HDD
            as_aux_lemma =>
            refine leaves_cons (f := 42) (args := #[.pointer (some ⟨w.heap.size + 1, 0, none⟩), .func (.func 46) #[] #[.pointer (some ⟨w.heap.size, 0, none⟩)]]) (by simp) (by simp [go_sem]) ?_
            refine (caught_idle _ _ _).mono ?_
            rintro e u' w'' ⟨rfl, rfl, rfl⟩
            generalize World.setCell _ ⟨w.heap.size + 1, 0, none⟩ (.int .i64 0) = V at *
            have g0 := HF.out.m.c 0 _ rfl
            have g1 := HF.out.m.c 1 _ rfl
            have g2 := HF.out.m.c 2 _ rfl
            have g3 := HF.out.m.c 3 _ rfl
            have g4 := HF.out.e.c 0 _ rfl
            as_aux_lemma =>
            refine ⟨.tuple #[imV p q zz (some ⟨D, 0, none⟩) n n, .int .i64 0], ?_, F1.out _ (byts_at HDF.out HDL.out (by omega)) HF.out.below⟩
            simp [results, Try.results25, go_sem, g0, g1, g2, g3, g4, imV]
end Go.Proofs.Ytfkkppagbhllgaa
