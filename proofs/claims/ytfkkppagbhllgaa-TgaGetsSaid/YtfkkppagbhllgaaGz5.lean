/-
  THE WALK OF limewashref29.Get: its rows (24 bits).
-/
import Derived.Test.YtfkkppagbhllgaaGz4
import Derived.ProofKit
import Derived.OpenShut
import Derived.Deep.Slices
import Derived.Deep.Fields
import Derived.Lib.SmallJoins
import Derived.ChangeSame
set_option linter.unusedVariables false
set_option linter.unusedSimpArgs false
set_option maxRecDepth 100000
namespace Go.Proofs.Ytfkkppagbhllgaa
open Go.RowKit

set_option maxHeartbeats 12800000 in
theorem getref_good24 (s : List UInt8) (w : World) (hl : s.length ≤ 1000000) (h18 : 18 ≤ s.length) (hho : headOk s = true) (hbt : bits s = 24) : Calls Try.prog 26 #[.string ⟨s.toArray⟩] w (GetRes s w) := by
  have FNO : Hid (∀ w', getT s = none → Below w.heap.size w w' → GetRes s w (.returned (.tuple #[zimV, .int .i64 6])) w') := Lib.hid fun w' h1 h2 => ⟨h2, .inl ⟨h1, rfl⟩⟩
  have FYES : Hid (∀ m A n c w', getT s = some m → Byts w' w'.heap.size A n m.d → n ≤ c → c ≤ 9223372036854775807 → Below w.heap.size w w' → GetRes s w (.returned (.tuple #[imV m.w m.h ((8 * m.z : Nat) : Int) A n c, .int .i64 0])) w') := Lib.hid fun m A n c w' h1 h2 h3 h4 h5 => ⟨h5, .inr ⟨m, A, n, c, h1, rfl, h2, h3, h4⟩⟩
  generalize hQ : GetRes s w = Qp at FNO FYES ⊢
  clear hQ
  have HHO := Lib.hid hho
  clear hho
  have I12 := fun W => idx_str s 12 12 (by omega) rfl W
  have I13 := fun W => idx_str s 13 13 (by omega) rfl W
  have I14 := fun W => idx_str s 14 14 (by omega) rfl W
  have I15 := fun W => idx_str s 15 15 (by omega) rfl W
  have I16 := fun W => idx_str s 16 16 (by omega) rfl W
  have I2 := fun W => idx_str s 2 2 (by omega) rfl W
  have I17 := fun W => idx_str s 17 17 (by omega) rfl W
  obtain ⟨x12, h12⟩ : ∃ x, x = (s.getD 12 0).toNat := ⟨_, rfl⟩
  obtain ⟨x13, h13⟩ : ∃ x, x = (s.getD 13 0).toNat := ⟨_, rfl⟩
  obtain ⟨x14, h14⟩ : ∃ x, x = (s.getD 14 0).toNat := ⟨_, rfl⟩
  obtain ⟨x15, h15⟩ : ∃ x, x = (s.getD 15 0).toNat := ⟨_, rfl⟩
  obtain ⟨x16, h16⟩ : ∃ x, x = (s.getD 16 0).toNat := ⟨_, rfl⟩
  have b12 : x12 ≤ 255 := by have := (s.getD 12 0).toNat_lt; omega
  have b13 : x13 ≤ 255 := by have := (s.getD 13 0).toNat_lt; omega
  have b14 : x14 ≤ 255 := by have := (s.getD 14 0).toNat_lt; omega
  have b15 : x15 ≤ 255 := by have := (s.getD 15 0).toNat_lt; omega
  have b16 : x16 ≤ 255 := by have := (s.getD 16 0).toNat_lt; omega
  obtain ⟨p, hp⟩ : ∃ p, p = x12 + 256 * x13 := ⟨_, rfl⟩
  obtain ⟨q, hq⟩ : ∃ q, q = x14 + 256 * x15 := ⟨_, rfl⟩
  have o1 : (x12 : Int) + 256 * (x13 : Int) = (p : Int) := by omega
  have o2 : (x14 : Int) + 256 * (x15 : Int) = (q : Int) := by omega
  obtain ⟨pk, hpk⟩ : ∃ b, b = isPacked s := ⟨_, rfl⟩
  obtain ⟨tp, htp⟩ : ∃ b, b = isTop s := ⟨_, rfl⟩
  have t5 : ((((s.getD 2 0).toNat : Nat) : Int) == 10) = pk := by
    rw [hpk]; exact u8_eq (s.getD 2 0) 10 (by decide)
  have t6 : decide (32 ≤ (((s.getD 17 0).toNat : Nat) : Int)) = tp := by
    rw [htp]; unfold isTop
    rw [decide_eq_decide]; omega
  have HB : Hid (b2 s 12 = p ∧ b2 s 14 = q ∧ bits s = x16) := Lib.hid (by
    unfold b2 bits
    exact ⟨by rw [hp, h12, h13], by rw [hq, h14, h15], h16.symm⟩)
  rw [← h12] at I12
  rw [← h13] at I13
  rw [← h14] at I14
  rw [← h15] at I15
  rw [← h16] at I16
  have hp9 : p ≤ 65535 := by omega
  have hq9 : q ≤ 65535 := by omega
  have HPK := Lib.hid hpk
  have HTP := Lib.hid htp
  have v12 : IntKind.i64.wrap (x12 : Int) = (x12 : Int) := by rw [IntKind.wrap_i64]; omega
  have v13 : IntKind.i64.wrap (x13 : Int) = (x13 : Int) := by rw [IntKind.wrap_i64]; omega
  have v14 : IntKind.i64.wrap (x14 : Int) = (x14 : Int) := by rw [IntKind.wrap_i64]; omega
  have v15 : IntKind.i64.wrap (x15 : Int) = (x15 : Int) := by rw [IntKind.wrap_i64]; omega
  have v16 : IntKind.i64.wrap (x16 : Int) = (x16 : Int) := by rw [IntKind.wrap_i64]; omega
  have w13 : IntKind.i64.wrap (256 * (x13 : Int)) = 256 * (x13 : Int) := by rw [IntKind.wrap_i64]; omega
  have w15 : IntKind.i64.wrap (256 * (x15 : Int)) = 256 * (x15 : Int) := by rw [IntKind.wrap_i64]; omega
  have wp : IntKind.i64.wrap (p : Int) = (p : Int) := by rw [IntKind.wrap_i64]; omega
  have wq : IntKind.i64.wrap (q : Int) = (q : Int) := by rw [IntKind.wrap_i64]; omega
  clear h12 h13 h14 h15 h16 hp hq hpk htp
  have hb2 : (s.getD 2 0).toNat ≤ 255 := by have := (s.getD 2 0).toNat_lt; omega
  have hb17 : (s.getD 17 0).toNat ≤ 255 := by have := (s.getD 17 0).toNat_lt; omega
  generalize (s.getD 2 0).toNat = x2 at *
  generalize (s.getD 17 0).toNat = x17 at *
  have t0 : decide ((s.length : Int) < 18) = false := decide_eq_false (by omega)
  have t0n : decide (s.length < 18) = false := decide_eq_false (by omega)
  have HS1 := Lib.hid (SlotN.new w zim zimC 24 rfl)
  have HB1 := Lib.hid ((Below.refl w.heap.size w).alloc (Nat.le_refl _) (.cells zimC 24))
  have hz0 : (w.alloc (.cells zimC 24)).heap.size = w.heap.size + 1 := by simp
  unfold zimC at *
  go_enter Try.func26, Try.ntmps26
  go_wp2_with fail
  generalize (w.alloc (.cells #[.int .i64 0, .int .i64 0, .int .i64 0, .slice none 0 0] 24)) = W0 at *
  refine wp_region_held_drew (S := (fun _ => True)) (by kernel_rfl) ?_ (fun hHeld => ?_)
  · trivial
  refine wpAnyH_takeD 0 (d := (some 20)) (v := ?_) rfl rfl (by kernel_rfl) (by kernel_rfl) (by kernel_rfl) (by kernel_rfl) (fun _ _ _ h => h) ?_ (by assumption) ?_
  rotate_left
  · intro ww hSw; (try dsimp only at hSw); first | (go_simp; done) | (go_simp; with_reducible rfl)
  simp only [Act.put, List.setIfInBounds_toArray, List.set_cons_zero, List.set_cons_succ]
  refine wpAnyH_takeD 1 (d := (some 21)) (v := ?_) rfl rfl (by kernel_rfl) (by kernel_rfl) (by kernel_rfl) (by kernel_rfl) (fun _ _ _ h => h) ?_ (by assumption) ?_
  rotate_left
  · intro ww hSw; (try dsimp only at hSw); first | (go_simp; done) | (go_simp; with_reducible rfl)
  simp only [Act.put, List.setIfInBounds_toArray, List.set_cons_zero, List.set_cons_succ]
  refine wpAnyH_takeD 2 (d := (some 22)) (v := ?_) rfl rfl (by kernel_rfl) (by kernel_rfl) (by kernel_rfl) (by kernel_rfl) (fun _ _ _ h => h) ?_ (by assumption) ?_
  rotate_left
  · intro ww hSw; (try dsimp only at hSw); first | (go_simp; done) | (go_simp; with_reducible rfl)
  simp only [Act.put, List.setIfInBounds_toArray, List.set_cons_zero, List.set_cons_succ]
  refine wpAnyH_takeD 3 (d := (some 23)) (v := ?_) rfl rfl (by kernel_rfl) (by kernel_rfl) (by kernel_rfl) (by kernel_rfl) (fun _ _ _ h => h) ?_ (by assumption) ?_
  rotate_left
  · intro ww hSw; (try dsimp only at hSw); first | (go_simp; done) | (go_simp; with_reducible rfl)
  simp only [Act.put, List.setIfInBounds_toArray, List.set_cons_zero, List.set_cons_succ]
  refine wpAnyH_takeD 4 (d := (some 24)) (v := ?_) rfl rfl (by kernel_rfl) (by kernel_rfl) (by kernel_rfl) (by kernel_rfl) (fun _ _ _ h => h) ?_ (by assumption) ?_
  rotate_left
  · intro ww hSw; (try dsimp only at hSw); first | (go_simp; done) | (go_simp; with_reducible rfl)
  simp only [Act.put, List.setIfInBounds_toArray, List.set_cons_zero, List.set_cons_succ]
  refine wpAnyH_takeD 5 (d := (some 25)) (v := ?_) rfl rfl (by kernel_rfl) (by kernel_rfl) (by kernel_rfl) (by kernel_rfl) (fun _ _ _ h => h) ?_ (by assumption) ?_
  rotate_left
  · intro ww hSw; (try dsimp only at hSw); first | (go_simp; done) | (go_simp; with_reducible rfl)
  simp only [Act.put, List.setIfInBounds_toArray, List.set_cons_zero, List.set_cons_succ]
  refine wpAnyH_takeD 6 (d := (some 26)) (v := ?_) rfl rfl (by kernel_rfl) (by kernel_rfl) (by kernel_rfl) (by kernel_rfl) (fun _ _ _ h => h) ?_ (by assumption) ?_
  rotate_left
  · intro ww hSw; (try dsimp only at hSw); first | (go_simp; done) | (go_simp; with_reducible rfl)
  simp only [Act.put, List.setIfInBounds_toArray, List.set_cons_zero, List.set_cons_succ]
  refine wpAnyH_takeD 7 (d := (some 27)) (v := ?_) rfl rfl (by kernel_rfl) (by kernel_rfl) (by kernel_rfl) (by kernel_rfl) (fun _ _ _ h => h) ?_ (by assumption) ?_
  rotate_left
  · intro ww hSw; (try dsimp only at hSw); first | (go_simp; done) | (go_simp; with_reducible rfl)
  simp only [Act.put, List.setIfInBounds_toArray, List.set_cons_zero, List.set_cons_succ]
  refine wpAnyH_takeD 8 (d := (some 28)) (v := ?_) rfl rfl (by kernel_rfl) (by kernel_rfl) (by kernel_rfl) (by kernel_rfl) (fun _ _ _ h => h) ?_ (by assumption) ?_
  rotate_left
  · intro ww hSw; (try dsimp only at hSw); first | (go_simp; done) | (go_simp; with_reducible rfl)
  simp only [Act.put, List.setIfInBounds_toArray, List.set_cons_zero, List.set_cons_succ]
  refine wpAnyH_takeD 9 (d := (some 29)) (v := ?_) rfl rfl (by kernel_rfl) (by kernel_rfl) (by kernel_rfl) (by kernel_rfl) (fun _ _ _ h => h) ?_ (by assumption) ?_
  rotate_left
  · intro ww hSw; (try dsimp only at hSw); first | (go_simp; done) | (go_simp; with_reducible rfl)
  simp only [Act.put, List.setIfInBounds_toArray, List.set_cons_zero, List.set_cons_succ]
  refine wpAnyH_takeD 10 (d := (some 30)) (v := ?_) rfl rfl (by kernel_rfl) (by kernel_rfl) (by kernel_rfl) (by kernel_rfl) (fun _ _ _ h => h) ?_ (by assumption) ?_
  rotate_left
  · intro ww hSw; (try dsimp only at hSw); first | (go_simp; done) | (go_simp; with_reducible rfl)
  simp only [Act.put, List.setIfInBounds_toArray, List.set_cons_zero, List.set_cons_succ]
  refine wpAnyH_takeD 11 (d := (some 31)) (v := ?_) rfl rfl (by kernel_rfl) (by kernel_rfl) (by kernel_rfl) (by kernel_rfl) (fun _ _ _ h => h) ?_ (by assumption) ?_
  rotate_left
  · intro ww hSw; (try dsimp only at hSw); first | (go_simp; done) | (go_simp; with_reducible rfl)
  simp only [Act.put, List.setIfInBounds_toArray, List.set_cons_zero, List.set_cons_succ]
  refine wpAnyH_takeD 12 (d := (some 32)) (v := ?_) rfl rfl (by kernel_rfl) (by kernel_rfl) (by kernel_rfl) (by kernel_rfl) (fun _ _ _ h => h) ?_ (by assumption) ?_
  rotate_left
  · intro ww hSw; (try dsimp only at hSw); first | (go_simp; done) | (go_simp; with_reducible rfl)
  simp only [Act.put, List.setIfInBounds_toArray, List.set_cons_zero, List.set_cons_succ]
  refine wpAnyH_takeD 13 (d := (some 33)) (v := ?_) rfl rfl (by kernel_rfl) (by kernel_rfl) (by kernel_rfl) (by kernel_rfl) (fun _ _ _ h => h) ?_ (by assumption) ?_
  rotate_left
  · intro ww hSw; (try dsimp only at hSw); first | (go_simp; done) | (go_simp; with_reducible rfl)
  simp only [Act.put, List.setIfInBounds_toArray, List.set_cons_zero, List.set_cons_succ]
  refine wpAnyH_takeD 14 (d := (some 34)) (v := ?_) rfl rfl (by kernel_rfl) (by kernel_rfl) (by kernel_rfl) (by kernel_rfl) (fun _ _ _ h => h) ?_ (by assumption) ?_
  rotate_left
  · intro ww hSw; (try dsimp only at hSw); first | (go_simp; done) | (go_simp; with_reducible rfl)
  simp only [Act.put, List.setIfInBounds_toArray, List.set_cons_zero, List.set_cons_succ]
  refine wpAnyH_takeD 15 (d := (some 35)) (v := ?_) rfl rfl (by kernel_rfl) (by kernel_rfl) (by kernel_rfl) (by kernel_rfl) (fun _ _ _ h => h) ?_ (by assumption) ?_
  rotate_left
  · intro ww hSw; (try dsimp only at hSw); first | (go_simp; done) | (go_simp; with_reducible rfl)
  simp only [Act.put, List.setIfInBounds_toArray, List.set_cons_zero, List.set_cons_succ]
  refine wpAnyH_takeD 16 (d := (some 36)) (v := ?_) rfl rfl (by kernel_rfl) (by kernel_rfl) (by kernel_rfl) (by kernel_rfl) (fun _ _ _ h => h) ?_ (by assumption) ?_
  rotate_left
  · intro ww hSw; (try dsimp only at hSw); first | (go_simp; done) | (go_simp; with_reducible rfl)
  simp only [Act.put, List.setIfInBounds_toArray, List.set_cons_zero, List.set_cons_succ]
  refine wpAnyH_takeD 17 (d := (some 37)) (v := ?_) rfl rfl (by kernel_rfl) (by kernel_rfl) (by kernel_rfl) (by kernel_rfl) (fun _ _ _ h => h) ?_ (by assumption) ?_
  rotate_left
  · intro ww hSw; (try dsimp only at hSw); first | (go_simp; done) | (go_simp; with_reducible rfl)
  simp only [Act.put, List.setIfInBounds_toArray, List.set_cons_zero, List.set_cons_succ]
  refine wpAnyH_takeD 18 (d := (some 38)) (v := ?_) rfl rfl (by kernel_rfl) (by kernel_rfl) (by kernel_rfl) (by kernel_rfl) (fun _ _ _ h => h) ?_ (by assumption) ?_
  rotate_left
  · intro ww hSw; (try dsimp only at hSw); first | (go_simp; done) | (go_simp; with_reducible rfl)
  simp only [Act.put, List.setIfInBounds_toArray, List.set_cons_zero, List.set_cons_succ]
  refine wpAnyH_takeD 19 (d := (some 39)) (v := ?_) rfl rfl (by kernel_rfl) (by kernel_rfl) (by kernel_rfl) (by kernel_rfl) (fun _ _ _ h => h) ?_ (by assumption) ?_
  rotate_left
  · intro ww hSw; (try dsimp only at hSw); first | (go_simp; done) | (go_simp; with_reducible rfl)
  simp only [Act.put, List.setIfInBounds_toArray, List.set_cons_zero, List.set_cons_succ]
  refine wpAnyH_ready (rs := [20]) (by kernel_rfl) (by simp) ?_
  refine AllReadyH.cons (o := _) rfl (fun K hK => ?_) AllReadyH.nil
  go_simp
  refine hK.out _ _ ?_ (fun hHeld => ?_)
  · trivial
  clear hK K
  refine wpAnyH_ready (rs := [21]) (by kernel_rfl) (by simp) ?_
  refine AllReadyH.cons (o := _) rfl (fun K hK => ?_) AllReadyH.nil
  go_simp
  refine hK.out _ _ ?_ (fun hHeld => ?_)
  · trivial
  clear hK K
  refine wpAnyH_done (by kernel_rfl) ?_ _
  have HA0 : Hid (RfAt w ((W0.alloc (.cells #[.int .i64 (p : Int), .int .i64 (q : Int), .int .i64 (x16 : Int), .slice none 0 0] 24)).drew) [.int .i64 (p : Int), .int .i64 (q : Int), .int .i64 (x16 : Int), .slice none 0 0]) := Lib.hid (by
    have s2 := SlotN.new W0 [.int .i64 (p : Int), .int .i64 (q : Int), .int .i64 (x16 : Int), .slice none 0 0] #[.int .i64 (p : Int), .int .i64 (q : Int), .int .i64 (x16 : Int), .slice none 0 0] 24 rfl
    rw [hz0] at s2
    have s3 := s2.drewN 1
    have hb3 := ((Below.refl (w.heap.size + 1) W0).alloc (by omega) (.cells #[.int .i64 (p : Int), .int .i64 (q : Int), .int .i64 (x16 : Int), .slice none 0 0] 24)).drew
    exact ⟨HS1.out.below hb3 (by omega), s3, by show w.heap.size + 1 < (W0.alloc _).heap.size; simp [hz0], (HB1.out.alloc HB1.out.size _).drew⟩)
  go_wp2_with fail
  generalize ((W0.alloc (.cells #[.int .i64 (p : Int), .int .i64 (q : Int), .int .i64 (x16 : Int), .slice none 0 0] 24)).drew) = W3 at *
  clear HS1 HB1 hz0 t5 t6 I2 I12 I13 I14 I15 I16 I17 o1 o2 w13 w15 wp wq v12 v13 v14 v15 v16
  have d0 := HA0.out.m.c 0 _ rfl
  have d1 := HA0.out.m.c 1 _ rfl
  have d2 := HA0.out.m.c 2 _ rfl
  have d3 := HA0.out.m.c 3 _ rfl
  have hlt3 := HA0.out.lt
  have HHE := HHO.out
  unfold headOk at HHE
  rw [HB.out.1, HB.out.2.1, HB.out.2.2, ← HPK.out, ← HTP.out] at HHE
  simp only [Bool.and_eq_true, beq_iff_eq] at HHE
  obtain ⟨hf, h9⟩ := HHE
  unfold formT at hf
  rw [decide_eq_true_iff] at hf
  have hxv : x16 = 24 := HB.out.2.2.symm.trans hbt
  obtain ⟨z, hzv, hz, hxz⟩ : ∃ z : Nat, z = 3 ∧ (z = 3 ∨ z = 4) ∧ x16 = 8 * z := ⟨3, rfl, by omega, by omega⟩
  have h9z : s.take 18 = headT p q z pk tp := by rw [h9, hxz, Nat.mul_div_cancel_left _ (by decide)]
  have KH := Lib.hid (fun W => headref_any p q z none 0 0 pk tp W (by omega) (by omega) hz)
  rw [← hxz] at KH
  unfold imV SR at KH
  have hp1 : 1 ≤ p := by omega
  have hp2 : p ≤ 256 := by omega
  have hq1 : 1 ≤ q := by omega
  have hq2 : q ≤ 256 := by omega
  have a1 : decide ((p : Int) < 1) = false := decide_eq_false (by omega)
  have a1n : decide (p < 1) = false := decide_eq_false (by omega)
  have a2 : decide ((256 : Int) < (p : Int)) = false := decide_eq_false (by omega)
  have a2n : decide (256 < p) = false := decide_eq_false (by omega)
  have a3 : decide ((q : Int) < 1) = false := decide_eq_false (by omega)
  have a3n : decide (q < 1) = false := decide_eq_false (by omega)
  have a4 : decide ((256 : Int) < (q : Int)) = false := decide_eq_false (by omega)
  have a4n : decide (256 < q) = false := decide_eq_false (by omega)
  have hsl := run_sl_to (P := Try.prog) 9 s 18 18 rfl h18 Try.underlying9
  have HFM : Hid (getT s = (match rowsT pk z p q (s.drop 18) with | none => none | some o => if o.2 = footT then some ⟨p, q, z, dataT z tp o.1⟩ else none)) := Lib.hid (by
    unfold getT
    rw [if_neg (by omega), HHO.out, if_pos rfl, HB.out.1, HB.out.2.1, HB.out.2.2, ← HPK.out, ← HTP.out, show x16 / 8 = z by omega]
    rfl)
  have td8 : (x16 : Int).tdiv 8 = (z : Int) := by rw [Int.tdiv_eq_ediv_of_nonneg (by omega)]; omega
  have z1 : 1 ≤ z := by omega
  have z4 : z ≤ 4 := by omega
  have wz : IntKind.i64.wrap (z : Int) = (z : Int) := by rw [IntKind.wrap_i64]; omega
  have HXZ := Lib.hid (⟨hxz, hz⟩ : _ ∧ _)
  have t24 : ((x16 : Int) != 24) = false := by rw [hxv]; rfl
  skip
  clear hf h9 hxz hz hzv hxv hbt HB HPK HTP HHO
  generalize htk : s.take 18 = TK at *
  generalize hhd : headT p q z pk tp = HD at *
  have t9 : (TK == HD) = true := by rw [h9z]; simp
  clear h9z htk hhd
  refine wp_region_held_drew (S := (fun w' => w'.cell? ⟨w.heap.size + 1, 0, none⟩ = some (.int .i64 (p : Int)) ∧ w'.cell? ⟨w.heap.size + 1, 1, none⟩ = some (.int .i64 (q : Int)) ∧ w'.cell? ⟨w.heap.size + 1, 2, none⟩ = some (.int .i64 (x16 : Int)) ∧ w'.cell? ⟨w.heap.size + 1, 3, none⟩ = some (.slice none 0 0))) (by kernel_rfl) ?_ (fun hHeld => ?_)
  · refine ⟨?_, ?_, ?_, ?_⟩ <;> (first | with_reducible assumption | (rw [hby.cell (by (try dsimp only); omega)]; with_reducible assumption) | (go_keep; done))
  refine wpAnyH_takeD 0 (d := (some 46)) (v := ?_) rfl rfl (by kernel_rfl) (by kernel_rfl) (by kernel_rfl) (by kernel_rfl) (fun _ _ _ h => h) ?_ (by assumption) ?_
  rotate_left
  · intro ww hSw; (try dsimp only at hSw); first | (go_simp; done) | (go_simp; with_reducible rfl)
  simp only [Act.put, List.setIfInBounds_toArray, List.set_cons_zero, List.set_cons_succ]
  refine wpAnyH_takeD 1 (d := (some 47)) (v := ?_) rfl rfl (by kernel_rfl) (by kernel_rfl) (by kernel_rfl) (by kernel_rfl) (fun _ _ _ h => h) ?_ (by assumption) ?_
  rotate_left
  · intro ww hSw; (try dsimp only at hSw); first | (go_simp; done) | (go_simp; with_reducible rfl)
  simp only [Act.put, List.setIfInBounds_toArray, List.set_cons_zero, List.set_cons_succ]
  refine wpAnyH_takeD 2 (d := (some 48)) (v := ?_) rfl rfl (by kernel_rfl) (by kernel_rfl) (by kernel_rfl) (by kernel_rfl) (fun _ _ _ h => h) ?_ (by assumption) ?_
  rotate_left
  · intro ww hSw; (try dsimp only at hSw); first | (go_simp; done) | (go_simp; with_reducible rfl)
  simp only [Act.put, List.setIfInBounds_toArray, List.set_cons_zero, List.set_cons_succ]
  refine wpAnyH_takeD 3 (d := (some 49)) (v := ?_) rfl rfl (by kernel_rfl) (by kernel_rfl) (by kernel_rfl) (by kernel_rfl) (fun _ _ _ h => h) ?_ (by assumption) ?_
  rotate_left
  · intro ww hSw; (try dsimp only at hSw); first | (go_simp; done) | (go_simp; with_reducible rfl)
  simp only [Act.put, List.setIfInBounds_toArray, List.set_cons_zero, List.set_cons_succ]
  refine wpAnyH_takeD 4 (d := (some 50)) (v := ?_) rfl rfl (by kernel_rfl) (by kernel_rfl) (by kernel_rfl) (by kernel_rfl) (fun _ _ _ h => h) ?_ (by assumption) ?_
  rotate_left
  · intro ww hSw; (try dsimp only at hSw); first | (go_simp; done) | (go_simp; with_reducible rfl)
  simp only [Act.put, List.setIfInBounds_toArray, List.set_cons_zero, List.set_cons_succ]
  refine wpAnyH_takeD 5 (d := (some 51)) (v := ?_) rfl rfl (by kernel_rfl) (by kernel_rfl) (by kernel_rfl) (by kernel_rfl) (fun _ _ _ h => h) ?_ (by assumption) ?_
  rotate_left
  · intro ww hSw; (try dsimp only at hSw); first | (go_simp; done) | (go_simp; with_reducible rfl)
  simp only [Act.put, List.setIfInBounds_toArray, List.set_cons_zero, List.set_cons_succ]
  refine wpAnyH_takeD 6 (d := (some 52)) (v := ?_) rfl rfl (by kernel_rfl) (by kernel_rfl) (by kernel_rfl) (by kernel_rfl) (fun _ _ _ h => h) ?_ (by assumption) ?_
  rotate_left
  · intro ww hSw; (try dsimp only at hSw); first | (go_simp; done) | (go_simp; with_reducible rfl)
  simp only [Act.put, List.setIfInBounds_toArray, List.set_cons_zero, List.set_cons_succ]
  refine wpAnyH_takeD 7 (d := (some 53)) (v := ?_) rfl rfl (by kernel_rfl) (by kernel_rfl) (by kernel_rfl) (by kernel_rfl) (fun _ _ _ h => h) ?_ (by assumption) ?_
  rotate_left
  · intro ww hSw; (try dsimp only at hSw); first | (go_simp; done) | (go_simp; with_reducible rfl)
  simp only [Act.put, List.setIfInBounds_toArray, List.set_cons_zero, List.set_cons_succ]
  refine wpAnyH_takeD 8 (d := (some 54)) (v := ?_) rfl rfl (by kernel_rfl) (by kernel_rfl) (by kernel_rfl) (by kernel_rfl) (fun _ _ _ h => h) ?_ (by assumption) ?_
  rotate_left
  · intro ww hSw; (try dsimp only at hSw); first | (go_simp; done) | (go_simp; with_reducible rfl)
  simp only [Act.put, List.setIfInBounds_toArray, List.set_cons_zero, List.set_cons_succ]
  refine wpAnyH_takeD 9 (d := (some 55)) (v := ?_) rfl rfl (by kernel_rfl) (by kernel_rfl) (by kernel_rfl) (by kernel_rfl) (fun _ _ _ h => h) ?_ (by assumption) ?_
  rotate_left
  · intro ww hSw; (try dsimp only at hSw); first | (go_simp; done) | (go_simp; with_reducible rfl)
  simp only [Act.put, List.setIfInBounds_toArray, List.set_cons_zero, List.set_cons_succ]
  refine wpAnyH_takeD 10 (d := (some 56)) (v := ?_) rfl rfl (by kernel_rfl) (by kernel_rfl) (by kernel_rfl) (by kernel_rfl) (fun _ _ _ h => h) ?_ (by assumption) ?_
  rotate_left
  · intro ww hSw; (try dsimp only at hSw); first | (go_simp; done) | (go_simp; with_reducible rfl)
  simp only [Act.put, List.setIfInBounds_toArray, List.set_cons_zero, List.set_cons_succ]
  refine wpAnyH_takeD 11 (d := (some 57)) (v := ?_) rfl rfl (by kernel_rfl) (by kernel_rfl) (by kernel_rfl) (by kernel_rfl) (fun _ _ _ h => h) ?_ (by assumption) ?_
  rotate_left
  · intro ww hSw; (try dsimp only at hSw); first | (go_simp; done) | (go_simp; with_reducible rfl)
  simp only [Act.put, List.setIfInBounds_toArray, List.set_cons_zero, List.set_cons_succ]
  refine wpAnyH_takeD 12 (d := (some 58)) (v := ?_) rfl rfl (by kernel_rfl) (by kernel_rfl) (by kernel_rfl) (by kernel_rfl) (fun _ _ _ h => h) ?_ (by assumption) ?_
  rotate_left
  · intro ww hSw; (try dsimp only at hSw); first | (go_simp; done) | (go_simp; with_reducible rfl)
  simp only [Act.put, List.setIfInBounds_toArray, List.set_cons_zero, List.set_cons_succ]
  refine wpAnyH_takeD 13 (d := (some 59)) (v := ?_) rfl rfl (by kernel_rfl) (by kernel_rfl) (by kernel_rfl) (by kernel_rfl) (fun _ _ _ h => h) ?_ (by assumption) ?_
  rotate_left
  · intro ww hSw; (try dsimp only at hSw); first | (go_simp; done) | (go_simp; with_reducible rfl)
  simp only [Act.put, List.setIfInBounds_toArray, List.set_cons_zero, List.set_cons_succ]
  refine wpAnyH_takeD 14 (d := (some 60)) (v := ?_) rfl rfl (by kernel_rfl) (by kernel_rfl) (by kernel_rfl) (by kernel_rfl) (fun _ _ _ h => h) ?_ (by assumption) ?_
  rotate_left
  · intro ww hSw; (try dsimp only at hSw); first | (go_simp; done) | (go_simp; with_reducible rfl)
  simp only [Act.put, List.setIfInBounds_toArray, List.set_cons_zero, List.set_cons_succ]
  refine wpAnyH_takeD 15 (d := (some 61)) (v := ?_) rfl rfl (by kernel_rfl) (by kernel_rfl) (by kernel_rfl) (by kernel_rfl) (fun _ _ _ h => h) ?_ (by assumption) ?_
  rotate_left
  · intro ww hSw; (try dsimp only at hSw); first | (go_simp; done) | (go_simp; with_reducible rfl)
  simp only [Act.put, List.setIfInBounds_toArray, List.set_cons_zero, List.set_cons_succ]
  refine wpAnyH_takeD 16 (d := (some 62)) (v := ?_) rfl rfl (by kernel_rfl) (by kernel_rfl) (by kernel_rfl) (by kernel_rfl) (fun _ _ _ h => h) ?_ (by assumption) ?_
  rotate_left
  · intro ww hSw; (try dsimp only at hSw); first | (go_simp; done) | (go_simp; with_reducible rfl)
  simp only [Act.put, List.setIfInBounds_toArray, List.set_cons_zero, List.set_cons_succ]
  refine wpAnyH_takeD 17 (d := (some 63)) (v := ?_) rfl rfl (by kernel_rfl) (by kernel_rfl) (by kernel_rfl) (by kernel_rfl) (fun _ _ _ h => h) ?_ (by assumption) ?_
  rotate_left
  · intro ww hSw; (try dsimp only at hSw); first | (go_simp; done) | (go_simp; with_reducible rfl)
  simp only [Act.put, List.setIfInBounds_toArray, List.set_cons_zero, List.set_cons_succ]
  refine wpAnyH_takeD 18 (d := (some 64)) (v := ?_) rfl rfl (by kernel_rfl) (by kernel_rfl) (by kernel_rfl) (by kernel_rfl) (fun _ _ _ h => h) ?_ (by assumption) ?_
  rotate_left
  · intro ww hSw; (try dsimp only at hSw); first | (go_simp; done) | (go_simp; with_reducible rfl)
  simp only [Act.put, List.setIfInBounds_toArray, List.set_cons_zero, List.set_cons_succ]
  refine wpAnyH_takeD 19 (d := (some 65)) (v := ?_) rfl rfl (by kernel_rfl) (by kernel_rfl) (by kernel_rfl) (by kernel_rfl) (fun _ _ _ h => h) ?_ (by assumption) ?_
  rotate_left
  · intro ww hSw; (try dsimp only at hSw); first | (go_simp; done) | (go_simp; with_reducible rfl)
  simp only [Act.put, List.setIfInBounds_toArray, List.set_cons_zero, List.set_cons_succ]
  refine wpAnyH_takeD 20 (d := (some 66)) (v := ?_) rfl rfl (by kernel_rfl) (by kernel_rfl) (by kernel_rfl) (by kernel_rfl) (fun _ _ _ h => h) ?_ (by assumption) ?_
  rotate_left
  · intro ww hSw; (try dsimp only at hSw); first | (go_simp; done) | (go_simp; with_reducible rfl)
  simp only [Act.put, List.setIfInBounds_toArray, List.set_cons_zero, List.set_cons_succ]
  refine wpAnyH_takeD 21 (d := (some 67)) (v := ?_) rfl rfl (by kernel_rfl) (by kernel_rfl) (by kernel_rfl) (by kernel_rfl) (fun _ _ _ h => h) ?_ (by assumption) ?_
  rotate_left
  · intro ww hSw; (try dsimp only at hSw); first | (go_simp; done) | (go_simp; with_reducible rfl)
  simp only [Act.put, List.setIfInBounds_toArray, List.set_cons_zero, List.set_cons_succ]
  refine wpAnyH_takeD 22 (d := (some 68)) (v := ?_) rfl rfl (by kernel_rfl) (by kernel_rfl) (by kernel_rfl) (by kernel_rfl) (fun _ _ _ h => h) ?_ (by assumption) ?_
  rotate_left
  · intro ww hSw; (try dsimp only at hSw); first | (go_simp; done) | (go_simp; with_reducible rfl)
  simp only [Act.put, List.setIfInBounds_toArray, List.set_cons_zero, List.set_cons_succ]
  refine wpAnyH_skip 23 (d := (some 69)) (by kernel_rfl) (by kernel_rfl) (by kernel_rfl) (by kernel_rfl) (fun _ _ _ h => h) (by assumption) ?_
  simp only [Act.put, List.setIfInBounds_toArray, List.set_cons_zero, List.set_cons_succ]
  refine wpAnyH_skip 24 (d := (some 70)) (by kernel_rfl) (by kernel_rfl) (by kernel_rfl) (by kernel_rfl) (fun _ _ _ h => h) (by assumption) ?_
  simp only [Act.put, List.setIfInBounds_toArray, List.set_cons_zero, List.set_cons_succ]
  refine wpAnyH_skip 25 (d := (some 71)) (by kernel_rfl) (by kernel_rfl) (by kernel_rfl) (by kernel_rfl) (fun _ _ _ h => h) (by assumption) ?_
  simp only [Act.put, List.setIfInBounds_toArray, List.set_cons_zero, List.set_cons_succ]
  refine wpAnyH_takeD 26 (d := (some 72)) (v := ?_) rfl rfl (by kernel_rfl) (by kernel_rfl) (by kernel_rfl) (by kernel_rfl) (fun _ _ _ h => h) ?_ (by assumption) ?_
  rotate_left
  · intro ww hSw; (try dsimp only at hSw); first | (go_simp; done) | (go_simp; with_reducible rfl)
  simp only [Act.put, List.setIfInBounds_toArray, List.set_cons_zero, List.set_cons_succ]
  refine wpAnyH_takeD 27 (d := (some 73)) (v := ?_) rfl rfl (by kernel_rfl) (by kernel_rfl) (by kernel_rfl) (by kernel_rfl) (fun _ _ _ h => h) ?_ (by assumption) ?_
  rotate_left
  · intro ww hSw; (try dsimp only at hSw); first | (go_simp; done) | (go_simp; with_reducible rfl)
  simp only [Act.put, List.setIfInBounds_toArray, List.set_cons_zero, List.set_cons_succ]
  refine wpAnyH_takeD 28 (d := (some 74)) (v := ?_) rfl rfl (by kernel_rfl) (by kernel_rfl) (by kernel_rfl) (by kernel_rfl) (fun _ _ _ h => h) ?_ (by assumption) ?_
  rotate_left
  · intro ww hSw; (try dsimp only at hSw); first | (go_simp; done) | (go_simp; with_reducible rfl)
  simp only [Act.put, List.setIfInBounds_toArray, List.set_cons_zero, List.set_cons_succ]
  refine wpAnyH_takeD 29 (d := (some 75)) (v := ?_) rfl rfl (by kernel_rfl) (by kernel_rfl) (by kernel_rfl) (by kernel_rfl) (fun _ _ _ h => h) ?_ (by assumption) ?_
  rotate_left
  · intro ww hSw; (try dsimp only at hSw); first | (go_simp; done) | (go_simp; with_reducible rfl)
  simp only [Act.put, List.setIfInBounds_toArray, List.set_cons_zero, List.set_cons_succ]
  refine wpAnyH_takeD 30 (d := (some 76)) (v := ?_) rfl rfl (by kernel_rfl) (by kernel_rfl) (by kernel_rfl) (by kernel_rfl) (fun _ _ _ h => h) ?_ (by assumption) ?_
  rotate_left
  · intro ww hSw; (try dsimp only at hSw); first | (go_simp; done) | (go_simp; with_reducible rfl)
  simp only [Act.put, List.setIfInBounds_toArray, List.set_cons_zero, List.set_cons_succ]
  refine wpAnyH_takeD 31 (d := (some 77)) (v := ?_) rfl rfl (by kernel_rfl) (by kernel_rfl) (by kernel_rfl) (by kernel_rfl) (fun _ _ _ h => h) ?_ (by assumption) ?_
  rotate_left
  · intro ww hSw; (try dsimp only at hSw); first | (go_simp; done) | (go_simp; with_reducible rfl)
  simp only [Act.put, List.setIfInBounds_toArray, List.set_cons_zero, List.set_cons_succ]
  refine wpAnyH_takeD 32 (d := (some 78)) (v := ?_) rfl rfl (by kernel_rfl) (by kernel_rfl) (by kernel_rfl) (by kernel_rfl) (fun _ _ _ h => h) ?_ (by assumption) ?_
  rotate_left
  · intro ww hSw; (try dsimp only at hSw); first | (go_simp; done) | (go_simp; with_reducible rfl)
  simp only [Act.put, List.setIfInBounds_toArray, List.set_cons_zero, List.set_cons_succ]
  refine wpAnyH_takeD 33 (d := (some 79)) (v := ?_) rfl rfl (by kernel_rfl) (by kernel_rfl) (by kernel_rfl) (by kernel_rfl) (fun _ _ _ h => h) ?_ (by assumption) ?_
  rotate_left
  · intro ww hSw; (try dsimp only at hSw); first | (go_simp; done) | (go_simp; with_reducible rfl)
  simp only [Act.put, List.setIfInBounds_toArray, List.set_cons_zero, List.set_cons_succ]
  refine wpAnyH_ready (rs := [34]) (by kernel_rfl) (by simp) ?_
  refine AllReadyH.cons (o := _) rfl (fun K hK => ?_) AllReadyH.nil
  go_simp
  go_at_call 35
  refine (KH.out _).mono ?_
  clear KH
  rintro e wx ⟨rfl, hbx⟩
  have hby : Below W3.heap.size W3 wx := (Below.refl _ W3).drew.trans (hbx.mono (by simp))
  try go_simp
  refine hK.out _ _ ?_ (fun hHeld => ?_)
  · refine ⟨?_, ?_, ?_, ?_⟩ <;> (first | with_reducible assumption | (rw [hby.cell (by (try dsimp only); omega)]; with_reducible assumption) | (go_keep; done))
  clear hK K
  refine wpAnyH_takeD 35 (d := (some 81)) (v := ?_) rfl rfl (by kernel_rfl) (by kernel_rfl) (by kernel_rfl) (by kernel_rfl) (fun _ _ _ h => h) ?_ (by assumption) ?_
  rotate_left
  · intro ww hSw; (try dsimp only at hSw); first | (go_simp; done) | (go_simp; with_reducible rfl)
  simp only [Act.put, List.setIfInBounds_toArray, List.set_cons_zero, List.set_cons_succ]
  refine wpAnyH_takeD 36 (d := (some 82)) (v := ?_) rfl rfl (by kernel_rfl) (by kernel_rfl) (by kernel_rfl) (by kernel_rfl) (fun _ _ _ h => h) ?_ (by assumption) ?_
  rotate_left
  · intro ww hSw; (try dsimp only at hSw); first | (go_simp; done) | (go_simp; with_reducible rfl)
  simp only [Act.put, List.setIfInBounds_toArray, List.set_cons_zero, List.set_cons_succ]
  refine wpAnyH_done (by kernel_rfl) ?_ _
  have HZ := Lib.hid (HA0.out.grown hby)
  clear HA0 d0 d1 d2 d3 hby t9 hsl a1 a1n a2 a2n a3 a3n a4 a4n t24  hp9 hq9 b12 b13 b14 b15 hlt3
  have hHeld' := hHeld
  clear hHeld hHeld'
  have hmk := run_make_row' (P := Try.prog) 76 9 (.string ⟨#[]⟩) 16 Try.underlying76 size_str rfl .i64 .i64 q (by omega) (by omega) wx
  have hrow := SlotN.new wx ((List.replicate q ([] : List UInt8)).map strV) (madeCells #[.string ⟨#[]⟩] q) 9 (made_strs q)
  rw [← rowsSt_zero z q tp] at hrow
  have HRW := Lib.hid hrow
  have HZ1 := Lib.hid (HZ.out.grown ((Below.refl wx.heap.size wx).alloc (Nat.le_refl _) (.cells (madeCells #[.string ⟨#[]⟩] q) 9)))
  have hzD : wx.heap.size < (wx.alloc (.cells (madeCells #[.string ⟨#[]⟩] q) 9)).heap.size := by simp
  have hltx := HZ.out.lt
  clear hrow
  have d0 := HZ.out.m.c 0 _ rfl
  have d1 := HZ.out.m.c 1 _ rfl
  have d2 := HZ.out.m.c 2 _ rfl
  have d3 := HZ.out.m.c 3 _ rfl
  as_aux_lemma =>
  go_wp2_with fail
  clear d0 d1 d2 d3 hmk
  as_aux_lemma =>
  go_loopw [7, 9] (fun a i wr => ∃ (rs : List (List UInt8)) (t : Nat), a = .int .i64 (t : Int) ∧ i = .int .i64 (rs.length : Int) ∧ t ≤ s.length ∧ Hid (RdSt pk z p q (s.drop 18) rs (s.drop t)) ∧ rs.length ≤ q ∧
    Hid (RfAt w wr [.int .i64 (p : Int), .int .i64 (q : Int), .int .i64 (x16 : Int), .slice none 0 0]) ∧ Hid (SlotN wr wx.heap.size ((rowsSt z q tp rs).map strV)) ∧ wx.heap.size < wr.heap.size) (fun _ i _ => q - (intOf i).toNat)
  case atStart => exact ⟨[], 18, rfl, rfl, h18, Lib.hid (RdSt.start _ _ _ _ _), Nat.zero_le _, HZ1, HRW, hzD⟩
  case round =>
    obtain ⟨rs, t, rfl, rfl, hts, hst, hrq, hA, hR, hzr⟩ := hrel
    clear HZ1 HRW hzD
    have d0 := hA.out.m.c 0 _ rfl
    have d1 := hA.out.m.c 1 _ rfl
    have d2 := hA.out.m.c 2 _ rfl
    have d3 := hA.out.m.c 3 _ rfl
    have hltr := hA.out.lt
    have hdr : (s.drop t).length = s.length - t := List.length_drop ..
    have hsl := run_sl_from (P := Try.prog) 9 s (t : Int) t rfl hts Try.underlying9
    by_cases hlt : rs.length < q
    · obtain ⟨n, hn⟩ : ∃ n, n = rs.length := ⟨_, rfl⟩
      rw [← hn] at hlt
      have t0 : decide ((n : Int) < (q : Int)) = true := decide_eq_true (by omega)
      have t0n : decide (n < q) = true := decide_eq_true (by omega)
      have KT := Lib.hid (fun W => takeref_any pk z p (s.drop t) W HXZ.out.2 hp2 (by omega))
      unfold TkRes at KT
      have w1 : IntKind.i64.wrap ((n : Int) + 1) = (n : Int) + 1 := by rw [IntKind.wrap_i64]; omega
      rw [← hn]
      cases htr : takeRow pk z p (s.drop t) with
      | none =>
        have KT0 : Hid (∀ W, Calls Try.prog 49 #[.string ⟨(s.drop t).toArray⟩, .int .i64 (z : Int), .int .i64 (p : Int), .bool pk] W fun e W' => (∃ t' k', e = .returned (.tuple #[.string ⟨t'⟩, .int .i64 k', .bool false])) ∧ Below W.heap.size W W') := Lib.hid fun W => (KT.out W).mono fun e W' h => by
          rcases h with ⟨hb, ⟨_, t', k', he⟩ | ⟨o, ho, _⟩⟩
          · exact ⟨⟨t', k', he⟩, hb⟩
          · rw [htr] at ho; cases ho
        have HNO : Hid (getT s = none) := Lib.hid (by rw [HFM.out, hst.out.none (by rw [← hn]; exact hlt) htr])
        clear htr KT hst hn hrq HFM FYES
        as_aux_lemma =>
        go_wp2_with fail
        go_region_held3 (fun w' => w'.cell? ⟨w.heap.size + 1, 0, none⟩ = some (.int .i64 (p : Int)) ∧ w'.cell? ⟨w.heap.size + 1, 2, none⟩ = some (.int .i64 (x16 : Int)))
          (refine ⟨?_, ?_⟩ <;> (first | with_reducible assumption | (rw [hby.cell (by (try dsimp only); omega)]; with_reducible assumption) | (go_keep; done)))
          ((go_at_call 49; refine (KT0.out _).mono ?_; clear KT0; rintro e wy ⟨⟨t', k', rfl⟩, hbx⟩; have hby : Below wr.heap.size wr wy := (Below.refl _ wr).drew.trans (hbx.mono (by simp))))
        have HZ := Lib.hid (hA.out.grown hby)
        clear d0 d1 d2 d3 hA hby hR
        have c0 := HZ.out.r.c 0 _ rfl
        have c1' := HZ.out.r.c 1 _ rfl
        have c2 := HZ.out.r.c 2 _ rfl
        have c3 := HZ.out.r.c 3 _ rfl
        have f0 := HZ.out.r.f 0
        have f1 := HZ.out.r.f 1
        have f2 := HZ.out.r.f 2
        have f3 := HZ.out.r.f 3
        have HZ2 := Lib.hid HZ.out.zero
        go_wp2_with fail
        generalize World.setCell _ ⟨w.heap.size, 3, none⟩ (.slice none 0 0) = V at *
        clear c0 c1' c2 c3 f0 f1 f2 f3
        have e0 := HZ2.out.1.c 0 _ rfl
        have e1 := HZ2.out.1.c 1 _ rfl
        have e2 := HZ2.out.1.c 2 _ rfl
        have e3 := HZ2.out.1.c 3 _ rfl
        exact bodyPost_ret (v := .tuple #[zimV, .int .i64 6]) (by simp [results, Try.results26, go_sem, e0, e1, e2, e3, zimV]) rfl (FNO.out _ HNO.out HZ2.out.2)
      | some o =>
        obtain ⟨j, hj, hoj⟩ := takeRow_drop htr
        rw [hdr] at hj
        rw [List.drop_drop] at hoj
        have KT1 : Hid (∀ W, Calls Try.prog 49 #[.string ⟨(s.drop t).toArray⟩, .int .i64 (z : Int), .int .i64 (p : Int), .bool pk] W fun e W' => e = .returned (.tuple #[.string ⟨o.1.toArray⟩, .int .i64 (j : Int), .bool true]) ∧ Below W.heap.size W W') := Lib.hid fun W => (KT.out W).mono fun e W' h => by
          rcases h with ⟨hb, ⟨ho, _⟩ | ⟨o', ho, he⟩⟩
          · rw [htr] at ho; cases ho
          · rw [htr] at ho; cases ho
            refine ⟨?_, hb⟩
            rw [he, hoj, hdr, List.length_drop, show (((s.length - t : Nat) : Int) - ((s.length - (t + j) : Nat) : Int)) = (j : Int) by omega]
        have hol := takeRow_out (packed := pk) (by omega) htr
        have HNX := Lib.hid (hst.out.some (by omega) (by rw [← hn]; exact hlt) htr)
        rw [hoj] at HNX
        have HOL := Lib.hid hol
        have hN1 : p * z ≤ 256 * 4 := Nat.mul_le_mul hp2 z4
        have KU := Lib.hid (fun W => turnref_any z p o.1 W HXZ.out.2 (by rw [hol]; omega) hol hp1)
        unfold SR at KU
        have wtj : IntKind.i64.wrap ((t : Int) + (j : Int)) = (t : Int) + (j : Int) := by rw [IntKind.wrap_i64]; omega
        have wq1 : IntKind.i64.wrap ((q : Int) - 1) = (q : Int) - 1 := by rw [IntKind.wrap_i64]; omega
        have wq2 : IntKind.i64.wrap ((q : Int) - 1 - (n : Int)) = (q : Int) - 1 - (n : Int) := by rw [IntKind.wrap_i64]; omega
        have HSS : Hid ((rowsSt z q tp rs).set (ordT q tp n) (turnedT z o.1) = rowsSt z q tp (rs ++ [o.1])) := Lib.hid (by rw [hn]; exact rowsSt_step (by rw [← hn]; exact hlt))
        have hRl : ((rowsSt z q tp rs).map strV).length = q := by rw [List.length_map, rowsSt_len hrq]
        have hlen1 : (rs ++ [o.1]).length = n + 1 := by simp [hn]
        have HL1 := Lib.hid hlen1
        have hjs : t + j ≤ s.length := by omega
        generalize hO1 : o.1 = O1 at *
        clear htr KT hst hn hrq hol hoj hO1 hlen1 HOL hj
        generalize hRR : rowsSt z q tp rs = RR at *
        clear hRR
        as_aux_lemma =>
        go_wp2_with fail
        go_region_held3 (fun w' => w'.cell? ⟨w.heap.size + 1, 0, none⟩ = some (.int .i64 (p : Int)) ∧ w'.cell? ⟨w.heap.size + 1, 2, none⟩ = some (.int .i64 (x16 : Int)))
          (refine ⟨?_, ?_⟩ <;> (first | with_reducible assumption | (rw [hby.cell (by (try dsimp only); omega)]; with_reducible assumption) | (go_keep; done)))
          ((go_at_call 49; refine (KT1.out _).mono ?_; clear KT1; rintro e wy ⟨rfl, hbx⟩; have hby : Below wr.heap.size wr wy := (Below.refl _ wr).drew.trans (hbx.mono (by simp))))
        have HA2 := Lib.hid (hA.out.grown hby)
        have HR2 := Lib.hid (hR.out.below hby hzr)
        have hz2 : wx.heap.size < wy.heap.size := Nat.lt_of_lt_of_le hzr hby.size
        clear d0 d1 d2 d3 hA hby hR hzr hsl
        have d1 := HA2.out.m.c 1 _ rfl
        have d2 := HA2.out.m.c 2 _ rfl
        have hy0 : ordT q tp n < q := ordT_lt tp hlt
        have hyg : ∃ u, (RR.map strV)[ordT q tp n]? = some u := ⟨_, List.getElem?_eq_getElem (by rw [hRl]; exact hy0)⟩
        obtain ⟨uy, huy⟩ := hyg
        have HUY := Lib.hid huy
        clear huy
        as_aux_lemma =>
        cases tp with
        | true =>
          have e7 : ordT q true n = n := rfl
          rw [e7] at HSS HUY hy0
          go_wp2_with fail
          refine (KU.out _).mono ?_
          clear KU
          rintro e wu ⟨rfl, hbu⟩
          have HA3 := Lib.hid (HA2.out.grown hbu)
          have HR3 := Lib.hid (HR2.out.below hbu hz2)
          have hz3 : wx.heap.size < wu.heap.size := Nat.lt_of_lt_of_le hz2 hbu.size
          clear HA2 HR2 hz2 hbu d1 d2
          have cy := HR3.out.c n _ HUY.out
          have fy := HR3.out.f n
          have i0 : (0 : Int) ≤ ((n : Nat) : Int) := by omega
          have i1 : ((n : Nat) : Int) < (q : Int) := by omega
          have HR4 := HR3.out.setAt n (by rw [hRl]; exact hy0) (strV (turnedT z O1))
          rw [← List.map_set, HSS.out] at HR4
          have HR5 := Lib.hid HR4
          have HA4 : Hid (RfAt w (wu.setCell ⟨wx.heap.size, n, none⟩ (strV (turnedT z O1))) [.int .i64 (p : Int), .int .i64 (q : Int), .int .i64 (x16 : Int), .slice none 0 0]) := Lib.hid ⟨HA3.out.r.otherJ wx.heap.size n (by omega) _, HA3.out.m.otherJ wx.heap.size n (by omega) _, by simpa using HA3.out.lt, HA3.out.below.setCell (p := ⟨wx.heap.size, n, none⟩) (by simp; omega) _⟩
          have hz4 : wx.heap.size < (wu.setCell ⟨wx.heap.size, n, none⟩ (strV (turnedT z O1))).heap.size := by simpa using hz3
          unfold strV at HA4 HR5 hz4
          clear HR4 HA3 HR3
          go_wp2_with fail
          go_roundw
          case rel => exact ⟨rs ++ [O1], t + j, by go_num, by rw [HL1.out]; go_num, hjs, HNX, by rw [HL1.out]; omega, HA4, by unfold strV; exact HR5, hz4⟩
          case measure => simp only [intOf]; omega
        | false =>
          have e7 : ordT q false n = q - 1 - n := rfl
          have e8 : ((q : Int) - 1 - (n : Int)) = ((q - 1 - n : Nat) : Int) := by omega
          rw [e7] at HSS HUY hy0
          rw [e8] at wq2
          clear e7
          go_wp2_with fail
          refine (KU.out _).mono ?_
          clear KU
          rintro e wu ⟨rfl, hbu⟩
          have HA3 := Lib.hid (HA2.out.grown hbu)
          have HR3 := Lib.hid (HR2.out.below hbu hz2)
          have hz3 : wx.heap.size < wu.heap.size := Nat.lt_of_lt_of_le hz2 hbu.size
          clear HA2 HR2 hz2 hbu d1 d2
          have cy := HR3.out.c (q - 1 - n) _ HUY.out
          have fy := HR3.out.f (q - 1 - n)
          have i0 : (0 : Int) ≤ (((q - 1 - n) : Nat) : Int) := by omega
          have i1 : (((q - 1 - n) : Nat) : Int) < (q : Int) := by omega
          have HR4 := HR3.out.setAt (q - 1 - n) (by rw [hRl]; exact hy0) (strV (turnedT z O1))
          rw [← List.map_set, HSS.out] at HR4
          have HR5 := Lib.hid HR4
          have HA4 : Hid (RfAt w (wu.setCell ⟨wx.heap.size, (q - 1 - n), none⟩ (strV (turnedT z O1))) [.int .i64 (p : Int), .int .i64 (q : Int), .int .i64 (x16 : Int), .slice none 0 0]) := Lib.hid ⟨HA3.out.r.otherJ wx.heap.size (q - 1 - n) (by omega) _, HA3.out.m.otherJ wx.heap.size (q - 1 - n) (by omega) _, by simpa using HA3.out.lt, HA3.out.below.setCell (p := ⟨wx.heap.size, (q - 1 - n), none⟩) (by simp; omega) _⟩
          have hz4 : wx.heap.size < (wu.setCell ⟨wx.heap.size, (q - 1 - n), none⟩ (strV (turnedT z O1))).heap.size := by simpa using hz3
          unfold strV at HA4 HR5 hz4
          clear HR4 HA3 HR3
          go_wp2_with fail
          go_roundw
          case rel => exact ⟨rs ++ [O1], t + j, by go_num, by rw [HL1.out]; go_num, hjs, HNX, by rw [HL1.out]; omega, HA4, by unfold strV; exact HR5, hz4⟩
          case measure => simp only [intOf]; omega
    · have hrq2 : rs.length = q := by omega
      have t0 : decide ((rs.length : Int) < (q : Int)) = false := decide_eq_false (by omega)
      have t0n : decide (rs.length < q) = false := decide_eq_false (by omega)
      have hdn := hst.out.done hrq2
      by_cases hft : s.drop t = footT
      · have t7 : (s.drop t == footT) = true := by rw [hft]; simp
        unfold footT at t7
        have HOK : Hid (getT s = some ⟨p, q, z, dataT z tp rs⟩) := Lib.hid (by rw [HFM.out, hdn]; simp [hft])
        have HDT : Hid ((rowsSt z q tp rs).flatten = dataT z tp rs) := Lib.hid (rowsSt_done hrq2)
        have HRM : Hid (∀ r ∈ rowsSt z q tp rs, r.length = p * z) := Lib.hid (rowsSt_mem hrq2 hst.out.2.1)
        have hRl := rowsSt_len (z := z) (top := tp) (q := q) (rs := rs) hrq
        generalize hRR : rowsSt z q tp rs = RR at *
        generalize hDD : dataT z tp rs = DD at *
        have HRL := Lib.hid hRl
        clear hft hdn hst hRR hDD HFM hrq2 hRl hrq
        as_aux_lemma =>
        go_wp2_with fail
        obtain ⟨i0, hi0, hz0, hzz1, hzz2⟩ := info_parts size_u8
        obtain ⟨N, hN⟩ : ∃ N, N = p * z := ⟨_, rfl⟩
        have hN1 : N ≤ 1024 := by rw [hN]; exact Nat.le_trans (Nat.mul_le_mul hp2 z4) (by omega)
        have hN0 : 0 < N := by rw [hN]; exact Nat.mul_pos hp1 z1
        rw [← hN] at HRM
        clear hN d0 d1 d2 d3 hsl t7 hdr
        obtain ⟨wo, hwo⟩ : ∃ x : World, x = wr := ⟨_, rfl⟩
        subst hwo
        as_aux_lemma =>
        go_loopw [14] (fun i wq => ∃ (k : Nat) (A' : Option Addr) (c' : Nat), k ≤ q ∧ i = .int .i64 (k : Int) ∧ Hid (SlotN wq (w.heap.size + 1) [.int .i64 (p : Int), .int .i64 (q : Int), .int .i64 (x16 : Int), .slice A' (k * N) c']) ∧
          wq.ownsRow (wx.heap.size + 1) 5 1 (.slice A' (k * N) c') (k * N) (Lib.byteCells (RR.take k).flatten) ∧ Hid (SlotN wq w.heap.size zim) ∧ Hid (SlotN wq wx.heap.size (RR.map strV)) ∧ Hid (Below w.heap.size w wq) ∧ wx.heap.size < wq.heap.size) (fun i _ => q - (intOf i).toNat)
        case atStart => exact ⟨0, none, 0, Nat.zero_le _, rfl, by rw [Nat.zero_mul]; exact Lib.hid hA.out.m, by rw [Nat.zero_mul, List.take_zero]; exact World.ownsRow_nil _ _ _ _, Lib.hid hA.out.r, hR, Lib.hid hA.out.below, hzr⟩
        case round =>
          obtain ⟨k, A', c', hk, rfl, HM2, hown, HS2, HRR, HBr, hzr2⟩ := hrel
          clear hA hR hzr hltr
          have hkN : k * N ≤ 256 * 1024 := Nat.mul_le_mul (by omega) hN1
          by_cases hlt : k < q
          · have k0 : (0 : Int) ≤ (k : Int) := by omega
            have k1 : (k : Int) < (q : Int) := by omega
            have t3 : decide ((k : Int) < (q : Int)) = true := decide_eq_true (by omega)
            have t3n : decide (k < q) = true := decide_eq_true (by omega)
            obtain ⟨r, hr⟩ : ∃ r, RR[k]? = some r := ⟨_, List.getElem?_eq_getElem (by rw [HRL.out]; exact hlt)⟩
            have hrl := HRM.out r (List.mem_of_getElem? hr)
            have HT : Hid ((RR.take (k + 1)).flatten = (RR.take k).flatten ++ r) := Lib.hid (by rw [take_snoc' _ _ _ hr]; simp)
            have cr : wr.cell? ⟨wx.heap.size, k, none⟩ = some (.string ⟨r.toArray⟩) := HRR.out.c k _ (by rw [List.getElem?_map, hr]; rfl)
            clear hr
            have hcv := run_bytes_of_string (P := Try.prog) wr 9 22 5 ⟨r.toArray⟩ Try.underlying9 Try.underlying22 Try.underlying5
            have hsz : (⟨r.toArray⟩ : ByteArray).size = N := hrl
            obtain ⟨cp, hcap⟩ : ∃ c, c = grownCap wr N 0 5 := ⟨_, rfl⟩
            have hcap2 : N ≤ cp := by rw [hcap]; exact grownCap_ge _ _ _ _
            have r0 := RowN.of_bytes wr r cp (by rw [hrl]; exact hcap2) 5
            rw [hsz, ← hcap] at hcv
            have hb0 : Below wr.heap.size wr (wr.drew.alloc (.cells (bytesRow ⟨r.toArray⟩ cp) 5 ((bytesRow ⟨r.toArray⟩ cp).size, (bytesRow ⟨r.toArray⟩ cp).size + 1))) := (Below.refl _ _).drew.alloc (Nat.le_refl _) _
            have HO8 := Lib.hid (hown.drew.alloc (.cells (bytesRow ⟨r.toArray⟩ cp) 5 ((bytesRow ⟨r.toArray⟩ cp).size, (bytesRow ⟨r.toArray⟩ cp).size + 1)))
            have hz8 : wr.heap.size < (wr.drew.alloc (.cells (bytesRow ⟨r.toArray⟩ cp) 5 ((bytesRow ⟨r.toArray⟩ cp).size, (bytesRow ⟨r.toArray⟩ cp).size + 1))).heap.size := by simp
            generalize (wr.drew.alloc (.cells (bytesRow ⟨r.toArray⟩ cp) 5 ((bytesRow ⟨r.toArray⟩ cp).size, (bytesRow ⟨r.toArray⟩ cp).size + 1))) = V8 at *
            clear hsz hcap
            have HB8 := Lib.hid (HBr.out.trans (hb0.mono HBr.out.size))
            have HM8 := Lib.hid (HM2.out.below hb0 (by omega))
            have HS8 := Lib.hid (HS2.out.below hb0 (by omega))
            have HR8 := Lib.hid (HRR.out.below hb0 hzr2)
            have HN8 : Hid (∀ j u, (Lib.byteCells r)[j]? = some u → V8.cell? ((⟨wr.heap.size, 0, none⟩ : Addr).add j) = some u) := Lib.hid fun j u hu => by
              rw [addr_lit]
              unfold Lib.byteCells at hu
              rw [List.getElem?_map] at hu
              cases hj : r[j]? with
              | none => rw [hj] at hu; cases hu
              | some b =>
                rw [hj] at hu
                simp only [Option.map_some, Option.some.injEq] at hu
                subst hu
                exact r0.c j b.toNat (by rw [List.getElem?_map, hj]; rfl)
            have hl8 : (Lib.byteCells r).length = N * 1 := by rw [bytes_len]; omega
            have HONE := Lib.hid (bytes_one r)
            have m8 := HM8.out.c 3 _ rfl
            have hbz : w.heap.size + 1 < V8.heap.size := by omega
            have hbz2 : wx.heap.size + 1 ≤ V8.heap.size := by omega
            have hbz3 : wx.heap.size < V8.heap.size := by omega
            have wk1 : IntKind.i64.wrap ((k : Int) + 1) = (k : Int) + 1 := by rw [IntKind.wrap_i64]; omega
            clear HM2 HS2 HRR HBr hown hb0 r0
            go_wp2_with (at_builtin; refine wpList_append_lies _ rfl (.tmp 146) (.tmp 147) _ rfl (wx.heap.size + 1) 5 i0 _ 1 1 Try.underlying22 hi0 hz0 hzz1 hzz2 rfl (by decide) (.slice A' (k * N) c') (k * N) (Lib.byteCells (RR.take k).flatten) rfl HO8.out ⟨wr.heap.size, 0, none⟩ N cp (Lib.byteCells r) rfl hl8 HN8.out HONE.out hN0 (by unfold maxLen; omega) (by omega) hbz2 _ rfl ?_; intro gg cap w9 hown9 hgr9 hat9 hlt9; have hne9 : some (w.heap.size + 1) ≠ (Value.slice A' (k * N) c').ownBlock := (fun e => by have := (HO8.out.lt _ e.symm).1; omega); have HM9 := Lib.hid (slot_far HM8.out hgr9 hne9 hbz); have HS9 := Lib.hid (slot_far HS8.out hgr9 (fun e => by have := (HO8.out.lt _ e.symm).1; omega) (by omega)); have HR9 := Lib.hid (slot_far HR8.out hgr9 (fun e => by have := (HO8.out.lt _ e.symm).1; omega) hbz3); have HB9 := Lib.hid (HB8.out.grown hgr9 HB8.out.size (fun j hj => by have := (HO8.out.lt _ hj).1; omega)); have HO9 := Lib.hid hown9; have m9 := HM9.out.c 3 _ rfl; have f9 := HM9.out.f 3; have hz9 : wx.heap.size < w9.heap.size := Nat.lt_of_lt_of_le hbz3 hgr9.size; clear hown9 hgr9 hne9 hat9)
            have HM10 := Lib.hid (HM9.out.setAt 3 (by simp) (.slice (some ⟨gg, 0, none⟩) (k * N + N) cap))
            have HS10 := Lib.hid (HS9.out.otherJ (w.heap.size + 1) 3 (by omega) (.slice (some ⟨gg, 0, none⟩) (k * N + N) cap))
            have HR10 := Lib.hid (HR9.out.otherJ (w.heap.size + 1) 3 (by omega) (.slice (some ⟨gg, 0, none⟩) (k * N + N) cap))
            have HB10 := Lib.hid (HB9.out.setCell (p := ⟨w.heap.size + 1, 3, none⟩) (by simp) (.slice (some ⟨gg, 0, none⟩) (k * N + N) cap))
            have HO10 := Lib.hid (own_kept HO9.out (grown_set _ (w.heap.size + 1) 3 (.slice (some ⟨gg, 0, none⟩) (k * N + N) cap)) (by omega))
            have HE : Hid (Lib.byteCells (RR.take k).flatten ++ Lib.byteCells r = Lib.byteCells (RR.take (k + 1)).flatten) := Lib.hid (by rw [HT.out]; simp [Lib.byteCells])
            have hz10 : wx.heap.size < (w9.setCell ⟨w.heap.size + 1, 3, none⟩ (.slice (some ⟨gg, 0, none⟩) (k * N + N) cap)).heap.size := by simpa using hz9
            clear HM8 HS8 HB8 HO8 HN8 HR8 m9 f9 HM9 HS9 HB9 HO9 HR9 hz9 hz8 m8 hcv hl8 hbz hbz2 hbz3
            go_roundw
            case rel => exact ⟨k + 1, some ⟨gg, 0, none⟩, cap, by omega, by go_num, by rw [Nat.succ_mul]; exact HM10, by rw [Nat.succ_mul, ← HE.out]; exact HO10.out, HS10, HR10, HB10, hz10⟩
            case measure => simp only [intOf]; omega
          · have t3 : decide ((k : Int) < (q : Int)) = false := decide_eq_false (by omega)
            have t3n : decide (k < q) = false := decide_eq_false (by omega)
            obtain rfl : k = q := by omega
            have m0 := HM2.out.c 0 _ rfl
            have m1 := HM2.out.c 1 _ rfl
            have m2 := HM2.out.c 2 _ rfl
            have m3 := HM2.out.c 3 _ rfl
            have s0 := HS2.out.c 0 _ rfl
            have s1 := HS2.out.c 1 _ rfl
            have s2 := HS2.out.c 2 _ rfl
            have s3 := HS2.out.c 3 _ rfl
            have f0 := HS2.out.f 0
            have f1 := HS2.out.f 1
            have f2 := HS2.out.f 2
            have f3 := HS2.out.f 3
            have HQ := Lib.hid ((((HS2.out.setAt 0 (by simp [zim]) (.int .i64 (p : Int))).setAt 1 (by simp [zim]) (.int .i64 (k : Int))).setAt 2 (by simp [zim]) (.int .i64 (x16 : Int))).setAt 3 (by simp [zim]) (.slice A' (k * N) c'))
            have HB3 := Lib.hid ((((HBr.out.setCell (p := ⟨w.heap.size, 0, none⟩) (Nat.le_refl _) (.int .i64 (p : Int))).setCell (p := ⟨w.heap.size, 1, none⟩) (Nat.le_refl _) (.int .i64 (k : Int))).setCell (p := ⟨w.heap.size, 2, none⟩) (Nat.le_refl _) (.int .i64 (x16 : Int))).setCell (p := ⟨w.heap.size, 3, none⟩) (Nat.le_refl _) (.slice A' (k * N) c'))
            have HO := Lib.hid (own_kept (own_kept (own_kept (own_kept hown (grown_set _ w.heap.size 0 (.int .i64 (p : Int))) (by omega)) (grown_set _ w.heap.size 1 (.int .i64 (k : Int))) (by omega)) (grown_set _ w.heap.size 2 (.int .i64 (x16 : Int))) (by omega)) (grown_set _ w.heap.size 3 (.slice A' (k * N) c')) (by omega))
            have HV : Hid ((RR.take k).flatten = DD) := Lib.hid (by rw [List.take_of_length_le (by rw [HRL.out]; exact Nat.le_refl _)]; exact HDT.out)
            clear hown HS2 HBr HM2 HRR
            go_wp2_with fail
            generalize World.setCell _ ⟨w.heap.size, 3, none⟩ (.slice A' (k * N) c') = V at *
            clear s0 s1 s2 s3 f0 f1 f2 f3 m0 m1 m2 m3
            have e0 := HQ.out.c 0 _ rfl
            have e1 := HQ.out.c 1 _ rfl
            have e2 := HQ.out.c 2 _ rfl
            have e3 := HQ.out.c 3 _ rfl
            have HO' := HO.out
            rw [HV.out] at HO'
            have hcp := own_cap HO'
            have e8 : (x16 : Int) = ((8 * z : Nat) : Int) := by rw [HXZ.out.1]
            have HF := FYES.out _ A' (k * N) c' _ HOK.out ⟨Rd.of_own HO', by have := hcp.1; have := hcp.2; omega⟩ hcp.1 hcp.2 HB3.out
            dsimp only [imV] at HF
            rw [← e8] at HF
            exact bodyPost_ret (v := .tuple #[.agg #[.int .i64 (p : Int), .int .i64 (k : Int), .int .i64 (x16 : Int), .slice A' (k * N) c'], .int .i64 0]) (by simp [results, Try.results26, go_sem, e0, e1, e2, e3]) rfl HF
      · have t7 : (s.drop t == footT) = false := by rw [beq_eq_false_iff_ne]; exact hft
        unfold footT at t7
        have HNO : Hid (getT s = none) := Lib.hid (by rw [HFM.out, hdn]; simp [hft])
        have HZ := hA
        clear hft hdn hst HFM FYES hA hR
        as_aux_lemma =>
        have c0 := HZ.out.r.c 0 _ rfl
        have c1' := HZ.out.r.c 1 _ rfl
        have c2 := HZ.out.r.c 2 _ rfl
        have c3 := HZ.out.r.c 3 _ rfl
        have f0 := HZ.out.r.f 0
        have f1 := HZ.out.r.f 1
        have f2 := HZ.out.r.f 2
        have f3 := HZ.out.r.f 3
        have HZ2 := Lib.hid HZ.out.zero
        go_wp2_with fail
        generalize World.setCell _ ⟨w.heap.size, 3, none⟩ (.slice none 0 0) = V at *
        clear c0 c1' c2 c3 f0 f1 f2 f3
        have e0 := HZ2.out.1.c 0 _ rfl
        have e1 := HZ2.out.1.c 1 _ rfl
        have e2 := HZ2.out.1.c 2 _ rfl
        have e3 := HZ2.out.1.c 3 _ rfl
        exact bodyPost_ret (v := .tuple #[zimV, .int .i64 6]) (by simp [results, Try.results26, go_sem, e0, e1, e2, e3, zimV]) rfl (FNO.out _ HNO.out HZ2.out.2)
end Go.Proofs.Ytfkkppagbhllgaa

/-
  THE WALK OF limewashref29.Get: its rows (32 bits).
-/
set_option linter.unusedVariables false
set_option linter.unusedSimpArgs false
set_option maxRecDepth 100000
namespace Go.Proofs.Ytfkkppagbhllgaa
open Go.RowKit

set_option maxHeartbeats 12800000 in
theorem getref_good32 (s : List UInt8) (w : World) (hl : s.length ≤ 1000000) (h18 : 18 ≤ s.length) (hho : headOk s = true) (hbt : bits s = 32) : Calls Try.prog 26 #[.string ⟨s.toArray⟩] w (GetRes s w) := by
  have FNO : Hid (∀ w', getT s = none → Below w.heap.size w w' → GetRes s w (.returned (.tuple #[zimV, .int .i64 6])) w') := Lib.hid fun w' h1 h2 => ⟨h2, .inl ⟨h1, rfl⟩⟩
  have FYES : Hid (∀ m A n c w', getT s = some m → Byts w' w'.heap.size A n m.d → n ≤ c → c ≤ 9223372036854775807 → Below w.heap.size w w' → GetRes s w (.returned (.tuple #[imV m.w m.h ((8 * m.z : Nat) : Int) A n c, .int .i64 0])) w') := Lib.hid fun m A n c w' h1 h2 h3 h4 h5 => ⟨h5, .inr ⟨m, A, n, c, h1, rfl, h2, h3, h4⟩⟩
  generalize hQ : GetRes s w = Qp at FNO FYES ⊢
  clear hQ
  have HHO := Lib.hid hho
  clear hho
  have I12 := fun W => idx_str s 12 12 (by omega) rfl W
  have I13 := fun W => idx_str s 13 13 (by omega) rfl W
  have I14 := fun W => idx_str s 14 14 (by omega) rfl W
  have I15 := fun W => idx_str s 15 15 (by omega) rfl W
  have I16 := fun W => idx_str s 16 16 (by omega) rfl W
  have I2 := fun W => idx_str s 2 2 (by omega) rfl W
  have I17 := fun W => idx_str s 17 17 (by omega) rfl W
  obtain ⟨x12, h12⟩ : ∃ x, x = (s.getD 12 0).toNat := ⟨_, rfl⟩
  obtain ⟨x13, h13⟩ : ∃ x, x = (s.getD 13 0).toNat := ⟨_, rfl⟩
  obtain ⟨x14, h14⟩ : ∃ x, x = (s.getD 14 0).toNat := ⟨_, rfl⟩
  obtain ⟨x15, h15⟩ : ∃ x, x = (s.getD 15 0).toNat := ⟨_, rfl⟩
  obtain ⟨x16, h16⟩ : ∃ x, x = (s.getD 16 0).toNat := ⟨_, rfl⟩
  have b12 : x12 ≤ 255 := by have := (s.getD 12 0).toNat_lt; omega
  have b13 : x13 ≤ 255 := by have := (s.getD 13 0).toNat_lt; omega
  have b14 : x14 ≤ 255 := by have := (s.getD 14 0).toNat_lt; omega
  have b15 : x15 ≤ 255 := by have := (s.getD 15 0).toNat_lt; omega
  have b16 : x16 ≤ 255 := by have := (s.getD 16 0).toNat_lt; omega
  obtain ⟨p, hp⟩ : ∃ p, p = x12 + 256 * x13 := ⟨_, rfl⟩
  obtain ⟨q, hq⟩ : ∃ q, q = x14 + 256 * x15 := ⟨_, rfl⟩
  have o1 : (x12 : Int) + 256 * (x13 : Int) = (p : Int) := by omega
  have o2 : (x14 : Int) + 256 * (x15 : Int) = (q : Int) := by omega
  obtain ⟨pk, hpk⟩ : ∃ b, b = isPacked s := ⟨_, rfl⟩
  obtain ⟨tp, htp⟩ : ∃ b, b = isTop s := ⟨_, rfl⟩
  have t5 : ((((s.getD 2 0).toNat : Nat) : Int) == 10) = pk := by
    rw [hpk]; exact u8_eq (s.getD 2 0) 10 (by decide)
  have t6 : decide (32 ≤ (((s.getD 17 0).toNat : Nat) : Int)) = tp := by
    rw [htp]; unfold isTop
    rw [decide_eq_decide]; omega
  have HB : Hid (b2 s 12 = p ∧ b2 s 14 = q ∧ bits s = x16) := Lib.hid (by
    unfold b2 bits
    exact ⟨by rw [hp, h12, h13], by rw [hq, h14, h15], h16.symm⟩)
  rw [← h12] at I12
  rw [← h13] at I13
  rw [← h14] at I14
  rw [← h15] at I15
  rw [← h16] at I16
  have hp9 : p ≤ 65535 := by omega
  have hq9 : q ≤ 65535 := by omega
  have HPK := Lib.hid hpk
  have HTP := Lib.hid htp
  have v12 : IntKind.i64.wrap (x12 : Int) = (x12 : Int) := by rw [IntKind.wrap_i64]; omega
  have v13 : IntKind.i64.wrap (x13 : Int) = (x13 : Int) := by rw [IntKind.wrap_i64]; omega
  have v14 : IntKind.i64.wrap (x14 : Int) = (x14 : Int) := by rw [IntKind.wrap_i64]; omega
  have v15 : IntKind.i64.wrap (x15 : Int) = (x15 : Int) := by rw [IntKind.wrap_i64]; omega
  have v16 : IntKind.i64.wrap (x16 : Int) = (x16 : Int) := by rw [IntKind.wrap_i64]; omega
  have w13 : IntKind.i64.wrap (256 * (x13 : Int)) = 256 * (x13 : Int) := by rw [IntKind.wrap_i64]; omega
  have w15 : IntKind.i64.wrap (256 * (x15 : Int)) = 256 * (x15 : Int) := by rw [IntKind.wrap_i64]; omega
  have wp : IntKind.i64.wrap (p : Int) = (p : Int) := by rw [IntKind.wrap_i64]; omega
  have wq : IntKind.i64.wrap (q : Int) = (q : Int) := by rw [IntKind.wrap_i64]; omega
  clear h12 h13 h14 h15 h16 hp hq hpk htp
  have hb2 : (s.getD 2 0).toNat ≤ 255 := by have := (s.getD 2 0).toNat_lt; omega
  have hb17 : (s.getD 17 0).toNat ≤ 255 := by have := (s.getD 17 0).toNat_lt; omega
  generalize (s.getD 2 0).toNat = x2 at *
  generalize (s.getD 17 0).toNat = x17 at *
  have t0 : decide ((s.length : Int) < 18) = false := decide_eq_false (by omega)
  have t0n : decide (s.length < 18) = false := decide_eq_false (by omega)
  have HS1 := Lib.hid (SlotN.new w zim zimC 24 rfl)
  have HB1 := Lib.hid ((Below.refl w.heap.size w).alloc (Nat.le_refl _) (.cells zimC 24))
  have hz0 : (w.alloc (.cells zimC 24)).heap.size = w.heap.size + 1 := by simp
  unfold zimC at *
  go_enter Try.func26, Try.ntmps26
  go_wp2_with fail
  generalize (w.alloc (.cells #[.int .i64 0, .int .i64 0, .int .i64 0, .slice none 0 0] 24)) = W0 at *
  refine wp_region_held_drew (S := (fun _ => True)) (by kernel_rfl) ?_ (fun hHeld => ?_)
  · trivial
  refine wpAnyH_takeD 0 (d := (some 20)) (v := ?_) rfl rfl (by kernel_rfl) (by kernel_rfl) (by kernel_rfl) (by kernel_rfl) (fun _ _ _ h => h) ?_ (by assumption) ?_
  rotate_left
  · intro ww hSw; (try dsimp only at hSw); first | (go_simp; done) | (go_simp; with_reducible rfl)
  simp only [Act.put, List.setIfInBounds_toArray, List.set_cons_zero, List.set_cons_succ]
  refine wpAnyH_takeD 1 (d := (some 21)) (v := ?_) rfl rfl (by kernel_rfl) (by kernel_rfl) (by kernel_rfl) (by kernel_rfl) (fun _ _ _ h => h) ?_ (by assumption) ?_
  rotate_left
  · intro ww hSw; (try dsimp only at hSw); first | (go_simp; done) | (go_simp; with_reducible rfl)
  simp only [Act.put, List.setIfInBounds_toArray, List.set_cons_zero, List.set_cons_succ]
  refine wpAnyH_takeD 2 (d := (some 22)) (v := ?_) rfl rfl (by kernel_rfl) (by kernel_rfl) (by kernel_rfl) (by kernel_rfl) (fun _ _ _ h => h) ?_ (by assumption) ?_
  rotate_left
  · intro ww hSw; (try dsimp only at hSw); first | (go_simp; done) | (go_simp; with_reducible rfl)
  simp only [Act.put, List.setIfInBounds_toArray, List.set_cons_zero, List.set_cons_succ]
  refine wpAnyH_takeD 3 (d := (some 23)) (v := ?_) rfl rfl (by kernel_rfl) (by kernel_rfl) (by kernel_rfl) (by kernel_rfl) (fun _ _ _ h => h) ?_ (by assumption) ?_
  rotate_left
  · intro ww hSw; (try dsimp only at hSw); first | (go_simp; done) | (go_simp; with_reducible rfl)
  simp only [Act.put, List.setIfInBounds_toArray, List.set_cons_zero, List.set_cons_succ]
  refine wpAnyH_takeD 4 (d := (some 24)) (v := ?_) rfl rfl (by kernel_rfl) (by kernel_rfl) (by kernel_rfl) (by kernel_rfl) (fun _ _ _ h => h) ?_ (by assumption) ?_
  rotate_left
  · intro ww hSw; (try dsimp only at hSw); first | (go_simp; done) | (go_simp; with_reducible rfl)
  simp only [Act.put, List.setIfInBounds_toArray, List.set_cons_zero, List.set_cons_succ]
  refine wpAnyH_takeD 5 (d := (some 25)) (v := ?_) rfl rfl (by kernel_rfl) (by kernel_rfl) (by kernel_rfl) (by kernel_rfl) (fun _ _ _ h => h) ?_ (by assumption) ?_
  rotate_left
  · intro ww hSw; (try dsimp only at hSw); first | (go_simp; done) | (go_simp; with_reducible rfl)
  simp only [Act.put, List.setIfInBounds_toArray, List.set_cons_zero, List.set_cons_succ]
  refine wpAnyH_takeD 6 (d := (some 26)) (v := ?_) rfl rfl (by kernel_rfl) (by kernel_rfl) (by kernel_rfl) (by kernel_rfl) (fun _ _ _ h => h) ?_ (by assumption) ?_
  rotate_left
  · intro ww hSw; (try dsimp only at hSw); first | (go_simp; done) | (go_simp; with_reducible rfl)
  simp only [Act.put, List.setIfInBounds_toArray, List.set_cons_zero, List.set_cons_succ]
  refine wpAnyH_takeD 7 (d := (some 27)) (v := ?_) rfl rfl (by kernel_rfl) (by kernel_rfl) (by kernel_rfl) (by kernel_rfl) (fun _ _ _ h => h) ?_ (by assumption) ?_
  rotate_left
  · intro ww hSw; (try dsimp only at hSw); first | (go_simp; done) | (go_simp; with_reducible rfl)
  simp only [Act.put, List.setIfInBounds_toArray, List.set_cons_zero, List.set_cons_succ]
  refine wpAnyH_takeD 8 (d := (some 28)) (v := ?_) rfl rfl (by kernel_rfl) (by kernel_rfl) (by kernel_rfl) (by kernel_rfl) (fun _ _ _ h => h) ?_ (by assumption) ?_
  rotate_left
  · intro ww hSw; (try dsimp only at hSw); first | (go_simp; done) | (go_simp; with_reducible rfl)
  simp only [Act.put, List.setIfInBounds_toArray, List.set_cons_zero, List.set_cons_succ]
  refine wpAnyH_takeD 9 (d := (some 29)) (v := ?_) rfl rfl (by kernel_rfl) (by kernel_rfl) (by kernel_rfl) (by kernel_rfl) (fun _ _ _ h => h) ?_ (by assumption) ?_
  rotate_left
  · intro ww hSw; (try dsimp only at hSw); first | (go_simp; done) | (go_simp; with_reducible rfl)
  simp only [Act.put, List.setIfInBounds_toArray, List.set_cons_zero, List.set_cons_succ]
  refine wpAnyH_takeD 10 (d := (some 30)) (v := ?_) rfl rfl (by kernel_rfl) (by kernel_rfl) (by kernel_rfl) (by kernel_rfl) (fun _ _ _ h => h) ?_ (by assumption) ?_
  rotate_left
  · intro ww hSw; (try dsimp only at hSw); first | (go_simp; done) | (go_simp; with_reducible rfl)
  simp only [Act.put, List.setIfInBounds_toArray, List.set_cons_zero, List.set_cons_succ]
  refine wpAnyH_takeD 11 (d := (some 31)) (v := ?_) rfl rfl (by kernel_rfl) (by kernel_rfl) (by kernel_rfl) (by kernel_rfl) (fun _ _ _ h => h) ?_ (by assumption) ?_
  rotate_left
  · intro ww hSw; (try dsimp only at hSw); first | (go_simp; done) | (go_simp; with_reducible rfl)
  simp only [Act.put, List.setIfInBounds_toArray, List.set_cons_zero, List.set_cons_succ]
  refine wpAnyH_takeD 12 (d := (some 32)) (v := ?_) rfl rfl (by kernel_rfl) (by kernel_rfl) (by kernel_rfl) (by kernel_rfl) (fun _ _ _ h => h) ?_ (by assumption) ?_
  rotate_left
  · intro ww hSw; (try dsimp only at hSw); first | (go_simp; done) | (go_simp; with_reducible rfl)
  simp only [Act.put, List.setIfInBounds_toArray, List.set_cons_zero, List.set_cons_succ]
  refine wpAnyH_takeD 13 (d := (some 33)) (v := ?_) rfl rfl (by kernel_rfl) (by kernel_rfl) (by kernel_rfl) (by kernel_rfl) (fun _ _ _ h => h) ?_ (by assumption) ?_
  rotate_left
  · intro ww hSw; (try dsimp only at hSw); first | (go_simp; done) | (go_simp; with_reducible rfl)
  simp only [Act.put, List.setIfInBounds_toArray, List.set_cons_zero, List.set_cons_succ]
  refine wpAnyH_takeD 14 (d := (some 34)) (v := ?_) rfl rfl (by kernel_rfl) (by kernel_rfl) (by kernel_rfl) (by kernel_rfl) (fun _ _ _ h => h) ?_ (by assumption) ?_
  rotate_left
  · intro ww hSw; (try dsimp only at hSw); first | (go_simp; done) | (go_simp; with_reducible rfl)
  simp only [Act.put, List.setIfInBounds_toArray, List.set_cons_zero, List.set_cons_succ]
  refine wpAnyH_takeD 15 (d := (some 35)) (v := ?_) rfl rfl (by kernel_rfl) (by kernel_rfl) (by kernel_rfl) (by kernel_rfl) (fun _ _ _ h => h) ?_ (by assumption) ?_
  rotate_left
  · intro ww hSw; (try dsimp only at hSw); first | (go_simp; done) | (go_simp; with_reducible rfl)
  simp only [Act.put, List.setIfInBounds_toArray, List.set_cons_zero, List.set_cons_succ]
  refine wpAnyH_takeD 16 (d := (some 36)) (v := ?_) rfl rfl (by kernel_rfl) (by kernel_rfl) (by kernel_rfl) (by kernel_rfl) (fun _ _ _ h => h) ?_ (by assumption) ?_
  rotate_left
  · intro ww hSw; (try dsimp only at hSw); first | (go_simp; done) | (go_simp; with_reducible rfl)
  simp only [Act.put, List.setIfInBounds_toArray, List.set_cons_zero, List.set_cons_succ]
  refine wpAnyH_takeD 17 (d := (some 37)) (v := ?_) rfl rfl (by kernel_rfl) (by kernel_rfl) (by kernel_rfl) (by kernel_rfl) (fun _ _ _ h => h) ?_ (by assumption) ?_
  rotate_left
  · intro ww hSw; (try dsimp only at hSw); first | (go_simp; done) | (go_simp; with_reducible rfl)
  simp only [Act.put, List.setIfInBounds_toArray, List.set_cons_zero, List.set_cons_succ]
  refine wpAnyH_takeD 18 (d := (some 38)) (v := ?_) rfl rfl (by kernel_rfl) (by kernel_rfl) (by kernel_rfl) (by kernel_rfl) (fun _ _ _ h => h) ?_ (by assumption) ?_
  rotate_left
  · intro ww hSw; (try dsimp only at hSw); first | (go_simp; done) | (go_simp; with_reducible rfl)
  simp only [Act.put, List.setIfInBounds_toArray, List.set_cons_zero, List.set_cons_succ]
  refine wpAnyH_takeD 19 (d := (some 39)) (v := ?_) rfl rfl (by kernel_rfl) (by kernel_rfl) (by kernel_rfl) (by kernel_rfl) (fun _ _ _ h => h) ?_ (by assumption) ?_
  rotate_left
  · intro ww hSw; (try dsimp only at hSw); first | (go_simp; done) | (go_simp; with_reducible rfl)
  simp only [Act.put, List.setIfInBounds_toArray, List.set_cons_zero, List.set_cons_succ]
  refine wpAnyH_ready (rs := [20]) (by kernel_rfl) (by simp) ?_
  refine AllReadyH.cons (o := _) rfl (fun K hK => ?_) AllReadyH.nil
  go_simp
  refine hK.out _ _ ?_ (fun hHeld => ?_)
  · trivial
  clear hK K
  refine wpAnyH_ready (rs := [21]) (by kernel_rfl) (by simp) ?_
  refine AllReadyH.cons (o := _) rfl (fun K hK => ?_) AllReadyH.nil
  go_simp
  refine hK.out _ _ ?_ (fun hHeld => ?_)
  · trivial
  clear hK K
  refine wpAnyH_done (by kernel_rfl) ?_ _
  have HA0 : Hid (RfAt w ((W0.alloc (.cells #[.int .i64 (p : Int), .int .i64 (q : Int), .int .i64 (x16 : Int), .slice none 0 0] 24)).drew) [.int .i64 (p : Int), .int .i64 (q : Int), .int .i64 (x16 : Int), .slice none 0 0]) := Lib.hid (by
    have s2 := SlotN.new W0 [.int .i64 (p : Int), .int .i64 (q : Int), .int .i64 (x16 : Int), .slice none 0 0] #[.int .i64 (p : Int), .int .i64 (q : Int), .int .i64 (x16 : Int), .slice none 0 0] 24 rfl
    rw [hz0] at s2
    have s3 := s2.drewN 1
    have hb3 := ((Below.refl (w.heap.size + 1) W0).alloc (by omega) (.cells #[.int .i64 (p : Int), .int .i64 (q : Int), .int .i64 (x16 : Int), .slice none 0 0] 24)).drew
    exact ⟨HS1.out.below hb3 (by omega), s3, by show w.heap.size + 1 < (W0.alloc _).heap.size; simp [hz0], (HB1.out.alloc HB1.out.size _).drew⟩)
  go_wp2_with fail
  generalize ((W0.alloc (.cells #[.int .i64 (p : Int), .int .i64 (q : Int), .int .i64 (x16 : Int), .slice none 0 0] 24)).drew) = W3 at *
  clear HS1 HB1 hz0 t5 t6 I2 I12 I13 I14 I15 I16 I17 o1 o2 w13 w15 wp wq v12 v13 v14 v15 v16
  have d0 := HA0.out.m.c 0 _ rfl
  have d1 := HA0.out.m.c 1 _ rfl
  have d2 := HA0.out.m.c 2 _ rfl
  have d3 := HA0.out.m.c 3 _ rfl
  have hlt3 := HA0.out.lt
  have HHE := HHO.out
  unfold headOk at HHE
  rw [HB.out.1, HB.out.2.1, HB.out.2.2, ← HPK.out, ← HTP.out] at HHE
  simp only [Bool.and_eq_true, beq_iff_eq] at HHE
  obtain ⟨hf, h9⟩ := HHE
  unfold formT at hf
  rw [decide_eq_true_iff] at hf
  have hxv : x16 = 32 := HB.out.2.2.symm.trans hbt
  obtain ⟨z, hzv, hz, hxz⟩ : ∃ z : Nat, z = 4 ∧ (z = 3 ∨ z = 4) ∧ x16 = 8 * z := ⟨4, rfl, by omega, by omega⟩
  have h9z : s.take 18 = headT p q z pk tp := by rw [h9, hxz, Nat.mul_div_cancel_left _ (by decide)]
  have KH := Lib.hid (fun W => headref_any p q z none 0 0 pk tp W (by omega) (by omega) hz)
  rw [← hxz] at KH
  unfold imV SR at KH
  have hp1 : 1 ≤ p := by omega
  have hp2 : p ≤ 256 := by omega
  have hq1 : 1 ≤ q := by omega
  have hq2 : q ≤ 256 := by omega
  have a1 : decide ((p : Int) < 1) = false := decide_eq_false (by omega)
  have a1n : decide (p < 1) = false := decide_eq_false (by omega)
  have a2 : decide ((256 : Int) < (p : Int)) = false := decide_eq_false (by omega)
  have a2n : decide (256 < p) = false := decide_eq_false (by omega)
  have a3 : decide ((q : Int) < 1) = false := decide_eq_false (by omega)
  have a3n : decide (q < 1) = false := decide_eq_false (by omega)
  have a4 : decide ((256 : Int) < (q : Int)) = false := decide_eq_false (by omega)
  have a4n : decide (256 < q) = false := decide_eq_false (by omega)
  have hsl := run_sl_to (P := Try.prog) 9 s 18 18 rfl h18 Try.underlying9
  have HFM : Hid (getT s = (match rowsT pk z p q (s.drop 18) with | none => none | some o => if o.2 = footT then some ⟨p, q, z, dataT z tp o.1⟩ else none)) := Lib.hid (by
    unfold getT
    rw [if_neg (by omega), HHO.out, if_pos rfl, HB.out.1, HB.out.2.1, HB.out.2.2, ← HPK.out, ← HTP.out, show x16 / 8 = z by omega]
    rfl)
  have td8 : (x16 : Int).tdiv 8 = (z : Int) := by rw [Int.tdiv_eq_ediv_of_nonneg (by omega)]; omega
  have z1 : 1 ≤ z := by omega
  have z4 : z ≤ 4 := by omega
  have wz : IntKind.i64.wrap (z : Int) = (z : Int) := by rw [IntKind.wrap_i64]; omega
  have HXZ := Lib.hid (⟨hxz, hz⟩ : _ ∧ _)
  have t24 : ((x16 : Int) != 24) = true := by rw [hxv]; rfl
  have t32 : ((x16 : Int) != 32) = false := by rw [hxv]; rfl
  clear hf h9 hxz hz hzv hxv hbt HB HPK HTP HHO
  generalize htk : s.take 18 = TK at *
  generalize hhd : headT p q z pk tp = HD at *
  have t9 : (TK == HD) = true := by rw [h9z]; simp
  clear h9z htk hhd
  refine wp_region_held_drew (S := (fun w' => w'.cell? ⟨w.heap.size + 1, 0, none⟩ = some (.int .i64 (p : Int)) ∧ w'.cell? ⟨w.heap.size + 1, 1, none⟩ = some (.int .i64 (q : Int)) ∧ w'.cell? ⟨w.heap.size + 1, 2, none⟩ = some (.int .i64 (x16 : Int)) ∧ w'.cell? ⟨w.heap.size + 1, 3, none⟩ = some (.slice none 0 0))) (by kernel_rfl) ?_ (fun hHeld => ?_)
  · refine ⟨?_, ?_, ?_, ?_⟩ <;> (first | with_reducible assumption | (rw [hby.cell (by (try dsimp only); omega)]; with_reducible assumption) | (go_keep; done))
  refine wpAnyH_takeD 0 (d := (some 46)) (v := ?_) rfl rfl (by kernel_rfl) (by kernel_rfl) (by kernel_rfl) (by kernel_rfl) (fun _ _ _ h => h) ?_ (by assumption) ?_
  rotate_left
  · intro ww hSw; (try dsimp only at hSw); first | (go_simp; done) | (go_simp; with_reducible rfl)
  simp only [Act.put, List.setIfInBounds_toArray, List.set_cons_zero, List.set_cons_succ]
  refine wpAnyH_takeD 1 (d := (some 47)) (v := ?_) rfl rfl (by kernel_rfl) (by kernel_rfl) (by kernel_rfl) (by kernel_rfl) (fun _ _ _ h => h) ?_ (by assumption) ?_
  rotate_left
  · intro ww hSw; (try dsimp only at hSw); first | (go_simp; done) | (go_simp; with_reducible rfl)
  simp only [Act.put, List.setIfInBounds_toArray, List.set_cons_zero, List.set_cons_succ]
  refine wpAnyH_takeD 2 (d := (some 48)) (v := ?_) rfl rfl (by kernel_rfl) (by kernel_rfl) (by kernel_rfl) (by kernel_rfl) (fun _ _ _ h => h) ?_ (by assumption) ?_
  rotate_left
  · intro ww hSw; (try dsimp only at hSw); first | (go_simp; done) | (go_simp; with_reducible rfl)
  simp only [Act.put, List.setIfInBounds_toArray, List.set_cons_zero, List.set_cons_succ]
  refine wpAnyH_takeD 3 (d := (some 49)) (v := ?_) rfl rfl (by kernel_rfl) (by kernel_rfl) (by kernel_rfl) (by kernel_rfl) (fun _ _ _ h => h) ?_ (by assumption) ?_
  rotate_left
  · intro ww hSw; (try dsimp only at hSw); first | (go_simp; done) | (go_simp; with_reducible rfl)
  simp only [Act.put, List.setIfInBounds_toArray, List.set_cons_zero, List.set_cons_succ]
  refine wpAnyH_takeD 4 (d := (some 50)) (v := ?_) rfl rfl (by kernel_rfl) (by kernel_rfl) (by kernel_rfl) (by kernel_rfl) (fun _ _ _ h => h) ?_ (by assumption) ?_
  rotate_left
  · intro ww hSw; (try dsimp only at hSw); first | (go_simp; done) | (go_simp; with_reducible rfl)
  simp only [Act.put, List.setIfInBounds_toArray, List.set_cons_zero, List.set_cons_succ]
  refine wpAnyH_takeD 5 (d := (some 51)) (v := ?_) rfl rfl (by kernel_rfl) (by kernel_rfl) (by kernel_rfl) (by kernel_rfl) (fun _ _ _ h => h) ?_ (by assumption) ?_
  rotate_left
  · intro ww hSw; (try dsimp only at hSw); first | (go_simp; done) | (go_simp; with_reducible rfl)
  simp only [Act.put, List.setIfInBounds_toArray, List.set_cons_zero, List.set_cons_succ]
  refine wpAnyH_takeD 6 (d := (some 52)) (v := ?_) rfl rfl (by kernel_rfl) (by kernel_rfl) (by kernel_rfl) (by kernel_rfl) (fun _ _ _ h => h) ?_ (by assumption) ?_
  rotate_left
  · intro ww hSw; (try dsimp only at hSw); first | (go_simp; done) | (go_simp; with_reducible rfl)
  simp only [Act.put, List.setIfInBounds_toArray, List.set_cons_zero, List.set_cons_succ]
  refine wpAnyH_takeD 7 (d := (some 53)) (v := ?_) rfl rfl (by kernel_rfl) (by kernel_rfl) (by kernel_rfl) (by kernel_rfl) (fun _ _ _ h => h) ?_ (by assumption) ?_
  rotate_left
  · intro ww hSw; (try dsimp only at hSw); first | (go_simp; done) | (go_simp; with_reducible rfl)
  simp only [Act.put, List.setIfInBounds_toArray, List.set_cons_zero, List.set_cons_succ]
  refine wpAnyH_takeD 8 (d := (some 54)) (v := ?_) rfl rfl (by kernel_rfl) (by kernel_rfl) (by kernel_rfl) (by kernel_rfl) (fun _ _ _ h => h) ?_ (by assumption) ?_
  rotate_left
  · intro ww hSw; (try dsimp only at hSw); first | (go_simp; done) | (go_simp; with_reducible rfl)
  simp only [Act.put, List.setIfInBounds_toArray, List.set_cons_zero, List.set_cons_succ]
  refine wpAnyH_takeD 9 (d := (some 55)) (v := ?_) rfl rfl (by kernel_rfl) (by kernel_rfl) (by kernel_rfl) (by kernel_rfl) (fun _ _ _ h => h) ?_ (by assumption) ?_
  rotate_left
  · intro ww hSw; (try dsimp only at hSw); first | (go_simp; done) | (go_simp; with_reducible rfl)
  simp only [Act.put, List.setIfInBounds_toArray, List.set_cons_zero, List.set_cons_succ]
  refine wpAnyH_takeD 10 (d := (some 56)) (v := ?_) rfl rfl (by kernel_rfl) (by kernel_rfl) (by kernel_rfl) (by kernel_rfl) (fun _ _ _ h => h) ?_ (by assumption) ?_
  rotate_left
  · intro ww hSw; (try dsimp only at hSw); first | (go_simp; done) | (go_simp; with_reducible rfl)
  simp only [Act.put, List.setIfInBounds_toArray, List.set_cons_zero, List.set_cons_succ]
  refine wpAnyH_takeD 11 (d := (some 57)) (v := ?_) rfl rfl (by kernel_rfl) (by kernel_rfl) (by kernel_rfl) (by kernel_rfl) (fun _ _ _ h => h) ?_ (by assumption) ?_
  rotate_left
  · intro ww hSw; (try dsimp only at hSw); first | (go_simp; done) | (go_simp; with_reducible rfl)
  simp only [Act.put, List.setIfInBounds_toArray, List.set_cons_zero, List.set_cons_succ]
  refine wpAnyH_takeD 12 (d := (some 58)) (v := ?_) rfl rfl (by kernel_rfl) (by kernel_rfl) (by kernel_rfl) (by kernel_rfl) (fun _ _ _ h => h) ?_ (by assumption) ?_
  rotate_left
  · intro ww hSw; (try dsimp only at hSw); first | (go_simp; done) | (go_simp; with_reducible rfl)
  simp only [Act.put, List.setIfInBounds_toArray, List.set_cons_zero, List.set_cons_succ]
  refine wpAnyH_takeD 13 (d := (some 59)) (v := ?_) rfl rfl (by kernel_rfl) (by kernel_rfl) (by kernel_rfl) (by kernel_rfl) (fun _ _ _ h => h) ?_ (by assumption) ?_
  rotate_left
  · intro ww hSw; (try dsimp only at hSw); first | (go_simp; done) | (go_simp; with_reducible rfl)
  simp only [Act.put, List.setIfInBounds_toArray, List.set_cons_zero, List.set_cons_succ]
  refine wpAnyH_takeD 14 (d := (some 60)) (v := ?_) rfl rfl (by kernel_rfl) (by kernel_rfl) (by kernel_rfl) (by kernel_rfl) (fun _ _ _ h => h) ?_ (by assumption) ?_
  rotate_left
  · intro ww hSw; (try dsimp only at hSw); first | (go_simp; done) | (go_simp; with_reducible rfl)
  simp only [Act.put, List.setIfInBounds_toArray, List.set_cons_zero, List.set_cons_succ]
  refine wpAnyH_takeD 15 (d := (some 61)) (v := ?_) rfl rfl (by kernel_rfl) (by kernel_rfl) (by kernel_rfl) (by kernel_rfl) (fun _ _ _ h => h) ?_ (by assumption) ?_
  rotate_left
  · intro ww hSw; (try dsimp only at hSw); first | (go_simp; done) | (go_simp; with_reducible rfl)
  simp only [Act.put, List.setIfInBounds_toArray, List.set_cons_zero, List.set_cons_succ]
  refine wpAnyH_takeD 16 (d := (some 62)) (v := ?_) rfl rfl (by kernel_rfl) (by kernel_rfl) (by kernel_rfl) (by kernel_rfl) (fun _ _ _ h => h) ?_ (by assumption) ?_
  rotate_left
  · intro ww hSw; (try dsimp only at hSw); first | (go_simp; done) | (go_simp; with_reducible rfl)
  simp only [Act.put, List.setIfInBounds_toArray, List.set_cons_zero, List.set_cons_succ]
  refine wpAnyH_takeD 17 (d := (some 63)) (v := ?_) rfl rfl (by kernel_rfl) (by kernel_rfl) (by kernel_rfl) (by kernel_rfl) (fun _ _ _ h => h) ?_ (by assumption) ?_
  rotate_left
  · intro ww hSw; (try dsimp only at hSw); first | (go_simp; done) | (go_simp; with_reducible rfl)
  simp only [Act.put, List.setIfInBounds_toArray, List.set_cons_zero, List.set_cons_succ]
  refine wpAnyH_takeD 18 (d := (some 64)) (v := ?_) rfl rfl (by kernel_rfl) (by kernel_rfl) (by kernel_rfl) (by kernel_rfl) (fun _ _ _ h => h) ?_ (by assumption) ?_
  rotate_left
  · intro ww hSw; (try dsimp only at hSw); first | (go_simp; done) | (go_simp; with_reducible rfl)
  simp only [Act.put, List.setIfInBounds_toArray, List.set_cons_zero, List.set_cons_succ]
  refine wpAnyH_takeD 19 (d := (some 65)) (v := ?_) rfl rfl (by kernel_rfl) (by kernel_rfl) (by kernel_rfl) (by kernel_rfl) (fun _ _ _ h => h) ?_ (by assumption) ?_
  rotate_left
  · intro ww hSw; (try dsimp only at hSw); first | (go_simp; done) | (go_simp; with_reducible rfl)
  simp only [Act.put, List.setIfInBounds_toArray, List.set_cons_zero, List.set_cons_succ]
  refine wpAnyH_takeD 20 (d := (some 66)) (v := ?_) rfl rfl (by kernel_rfl) (by kernel_rfl) (by kernel_rfl) (by kernel_rfl) (fun _ _ _ h => h) ?_ (by assumption) ?_
  rotate_left
  · intro ww hSw; (try dsimp only at hSw); first | (go_simp; done) | (go_simp; with_reducible rfl)
  simp only [Act.put, List.setIfInBounds_toArray, List.set_cons_zero, List.set_cons_succ]
  refine wpAnyH_takeD 21 (d := (some 67)) (v := ?_) rfl rfl (by kernel_rfl) (by kernel_rfl) (by kernel_rfl) (by kernel_rfl) (fun _ _ _ h => h) ?_ (by assumption) ?_
  rotate_left
  · intro ww hSw; (try dsimp only at hSw); first | (go_simp; done) | (go_simp; with_reducible rfl)
  simp only [Act.put, List.setIfInBounds_toArray, List.set_cons_zero, List.set_cons_succ]
  refine wpAnyH_takeD 22 (d := (some 68)) (v := ?_) rfl rfl (by kernel_rfl) (by kernel_rfl) (by kernel_rfl) (by kernel_rfl) (fun _ _ _ h => h) ?_ (by assumption) ?_
  rotate_left
  · intro ww hSw; (try dsimp only at hSw); first | (go_simp; done) | (go_simp; with_reducible rfl)
  simp only [Act.put, List.setIfInBounds_toArray, List.set_cons_zero, List.set_cons_succ]
  refine wpAnyH_takeD 23 (d := (some 69)) (v := ?_) rfl rfl (by kernel_rfl) (by kernel_rfl) (by kernel_rfl) (by kernel_rfl) (fun _ _ _ h => h) ?_ (by assumption) ?_
  rotate_left
  · intro ww hSw; (try dsimp only at hSw); first | (go_simp; done) | (go_simp; with_reducible rfl)
  simp only [Act.put, List.setIfInBounds_toArray, List.set_cons_zero, List.set_cons_succ]
  refine wpAnyH_takeD 24 (d := (some 70)) (v := ?_) rfl rfl (by kernel_rfl) (by kernel_rfl) (by kernel_rfl) (by kernel_rfl) (fun _ _ _ h => h) ?_ (by assumption) ?_
  rotate_left
  · intro ww hSw; (try dsimp only at hSw); first | (go_simp; done) | (go_simp; with_reducible rfl)
  simp only [Act.put, List.setIfInBounds_toArray, List.set_cons_zero, List.set_cons_succ]
  refine wpAnyH_takeD 25 (d := (some 71)) (v := ?_) rfl rfl (by kernel_rfl) (by kernel_rfl) (by kernel_rfl) (by kernel_rfl) (fun _ _ _ h => h) ?_ (by assumption) ?_
  rotate_left
  · intro ww hSw; (try dsimp only at hSw); first | (go_simp; done) | (go_simp; with_reducible rfl)
  simp only [Act.put, List.setIfInBounds_toArray, List.set_cons_zero, List.set_cons_succ]
  refine wpAnyH_takeD 26 (d := (some 72)) (v := ?_) rfl rfl (by kernel_rfl) (by kernel_rfl) (by kernel_rfl) (by kernel_rfl) (fun _ _ _ h => h) ?_ (by assumption) ?_
  rotate_left
  · intro ww hSw; (try dsimp only at hSw); first | (go_simp; done) | (go_simp; with_reducible rfl)
  simp only [Act.put, List.setIfInBounds_toArray, List.set_cons_zero, List.set_cons_succ]
  refine wpAnyH_takeD 27 (d := (some 73)) (v := ?_) rfl rfl (by kernel_rfl) (by kernel_rfl) (by kernel_rfl) (by kernel_rfl) (fun _ _ _ h => h) ?_ (by assumption) ?_
  rotate_left
  · intro ww hSw; (try dsimp only at hSw); first | (go_simp; done) | (go_simp; with_reducible rfl)
  simp only [Act.put, List.setIfInBounds_toArray, List.set_cons_zero, List.set_cons_succ]
  refine wpAnyH_takeD 28 (d := (some 74)) (v := ?_) rfl rfl (by kernel_rfl) (by kernel_rfl) (by kernel_rfl) (by kernel_rfl) (fun _ _ _ h => h) ?_ (by assumption) ?_
  rotate_left
  · intro ww hSw; (try dsimp only at hSw); first | (go_simp; done) | (go_simp; with_reducible rfl)
  simp only [Act.put, List.setIfInBounds_toArray, List.set_cons_zero, List.set_cons_succ]
  refine wpAnyH_takeD 29 (d := (some 75)) (v := ?_) rfl rfl (by kernel_rfl) (by kernel_rfl) (by kernel_rfl) (by kernel_rfl) (fun _ _ _ h => h) ?_ (by assumption) ?_
  rotate_left
  · intro ww hSw; (try dsimp only at hSw); first | (go_simp; done) | (go_simp; with_reducible rfl)
  simp only [Act.put, List.setIfInBounds_toArray, List.set_cons_zero, List.set_cons_succ]
  refine wpAnyH_takeD 30 (d := (some 76)) (v := ?_) rfl rfl (by kernel_rfl) (by kernel_rfl) (by kernel_rfl) (by kernel_rfl) (fun _ _ _ h => h) ?_ (by assumption) ?_
  rotate_left
  · intro ww hSw; (try dsimp only at hSw); first | (go_simp; done) | (go_simp; with_reducible rfl)
  simp only [Act.put, List.setIfInBounds_toArray, List.set_cons_zero, List.set_cons_succ]
  refine wpAnyH_takeD 31 (d := (some 77)) (v := ?_) rfl rfl (by kernel_rfl) (by kernel_rfl) (by kernel_rfl) (by kernel_rfl) (fun _ _ _ h => h) ?_ (by assumption) ?_
  rotate_left
  · intro ww hSw; (try dsimp only at hSw); first | (go_simp; done) | (go_simp; with_reducible rfl)
  simp only [Act.put, List.setIfInBounds_toArray, List.set_cons_zero, List.set_cons_succ]
  refine wpAnyH_takeD 32 (d := (some 78)) (v := ?_) rfl rfl (by kernel_rfl) (by kernel_rfl) (by kernel_rfl) (by kernel_rfl) (fun _ _ _ h => h) ?_ (by assumption) ?_
  rotate_left
  · intro ww hSw; (try dsimp only at hSw); first | (go_simp; done) | (go_simp; with_reducible rfl)
  simp only [Act.put, List.setIfInBounds_toArray, List.set_cons_zero, List.set_cons_succ]
  refine wpAnyH_takeD 33 (d := (some 79)) (v := ?_) rfl rfl (by kernel_rfl) (by kernel_rfl) (by kernel_rfl) (by kernel_rfl) (fun _ _ _ h => h) ?_ (by assumption) ?_
  rotate_left
  · intro ww hSw; (try dsimp only at hSw); first | (go_simp; done) | (go_simp; with_reducible rfl)
  simp only [Act.put, List.setIfInBounds_toArray, List.set_cons_zero, List.set_cons_succ]
  refine wpAnyH_ready (rs := [34]) (by kernel_rfl) (by simp) ?_
  refine AllReadyH.cons (o := _) rfl (fun K hK => ?_) AllReadyH.nil
  go_simp
  go_at_call 35
  refine (KH.out _).mono ?_
  clear KH
  rintro e wx ⟨rfl, hbx⟩
  have hby : Below W3.heap.size W3 wx := (Below.refl _ W3).drew.trans (hbx.mono (by simp))
  try go_simp
  refine hK.out _ _ ?_ (fun hHeld => ?_)
  · refine ⟨?_, ?_, ?_, ?_⟩ <;> (first | with_reducible assumption | (rw [hby.cell (by (try dsimp only); omega)]; with_reducible assumption) | (go_keep; done))
  clear hK K
  refine wpAnyH_takeD 35 (d := (some 81)) (v := ?_) rfl rfl (by kernel_rfl) (by kernel_rfl) (by kernel_rfl) (by kernel_rfl) (fun _ _ _ h => h) ?_ (by assumption) ?_
  rotate_left
  · intro ww hSw; (try dsimp only at hSw); first | (go_simp; done) | (go_simp; with_reducible rfl)
  simp only [Act.put, List.setIfInBounds_toArray, List.set_cons_zero, List.set_cons_succ]
  refine wpAnyH_takeD 36 (d := (some 82)) (v := ?_) rfl rfl (by kernel_rfl) (by kernel_rfl) (by kernel_rfl) (by kernel_rfl) (fun _ _ _ h => h) ?_ (by assumption) ?_
  rotate_left
  · intro ww hSw; (try dsimp only at hSw); first | (go_simp; done) | (go_simp; with_reducible rfl)
  simp only [Act.put, List.setIfInBounds_toArray, List.set_cons_zero, List.set_cons_succ]
  refine wpAnyH_done (by kernel_rfl) ?_ _
  have HZ := Lib.hid (HA0.out.grown hby)
  clear HA0 d0 d1 d2 d3 hby t9 hsl a1 a1n a2 a2n a3 a3n a4 a4n t24 t32 hp9 hq9 b12 b13 b14 b15 hlt3
  have hHeld' := hHeld
  clear hHeld hHeld'
  have hmk := run_make_row' (P := Try.prog) 76 9 (.string ⟨#[]⟩) 16 Try.underlying76 size_str rfl .i64 .i64 q (by omega) (by omega) wx
  have hrow := SlotN.new wx ((List.replicate q ([] : List UInt8)).map strV) (madeCells #[.string ⟨#[]⟩] q) 9 (made_strs q)
  rw [← rowsSt_zero z q tp] at hrow
  have HRW := Lib.hid hrow
  have HZ1 := Lib.hid (HZ.out.grown ((Below.refl wx.heap.size wx).alloc (Nat.le_refl _) (.cells (madeCells #[.string ⟨#[]⟩] q) 9)))
  have hzD : wx.heap.size < (wx.alloc (.cells (madeCells #[.string ⟨#[]⟩] q) 9)).heap.size := by simp
  have hltx := HZ.out.lt
  clear hrow
  have d0 := HZ.out.m.c 0 _ rfl
  have d1 := HZ.out.m.c 1 _ rfl
  have d2 := HZ.out.m.c 2 _ rfl
  have d3 := HZ.out.m.c 3 _ rfl
  as_aux_lemma =>
  go_wp2_with fail
  clear d0 d1 d2 d3 hmk
  as_aux_lemma =>
  go_loopw [7, 9] (fun a i wr => ∃ (rs : List (List UInt8)) (t : Nat), a = .int .i64 (t : Int) ∧ i = .int .i64 (rs.length : Int) ∧ t ≤ s.length ∧ Hid (RdSt pk z p q (s.drop 18) rs (s.drop t)) ∧ rs.length ≤ q ∧
    Hid (RfAt w wr [.int .i64 (p : Int), .int .i64 (q : Int), .int .i64 (x16 : Int), .slice none 0 0]) ∧ Hid (SlotN wr wx.heap.size ((rowsSt z q tp rs).map strV)) ∧ wx.heap.size < wr.heap.size) (fun _ i _ => q - (intOf i).toNat)
  case atStart => exact ⟨[], 18, rfl, rfl, h18, Lib.hid (RdSt.start _ _ _ _ _), Nat.zero_le _, HZ1, HRW, hzD⟩
  case round =>
    obtain ⟨rs, t, rfl, rfl, hts, hst, hrq, hA, hR, hzr⟩ := hrel
    clear HZ1 HRW hzD
    have d0 := hA.out.m.c 0 _ rfl
    have d1 := hA.out.m.c 1 _ rfl
    have d2 := hA.out.m.c 2 _ rfl
    have d3 := hA.out.m.c 3 _ rfl
    have hltr := hA.out.lt
    have hdr : (s.drop t).length = s.length - t := List.length_drop ..
    have hsl := run_sl_from (P := Try.prog) 9 s (t : Int) t rfl hts Try.underlying9
    by_cases hlt : rs.length < q
    · obtain ⟨n, hn⟩ : ∃ n, n = rs.length := ⟨_, rfl⟩
      rw [← hn] at hlt
      have t0 : decide ((n : Int) < (q : Int)) = true := decide_eq_true (by omega)
      have t0n : decide (n < q) = true := decide_eq_true (by omega)
      have KT := Lib.hid (fun W => takeref_any pk z p (s.drop t) W HXZ.out.2 hp2 (by omega))
      unfold TkRes at KT
      have w1 : IntKind.i64.wrap ((n : Int) + 1) = (n : Int) + 1 := by rw [IntKind.wrap_i64]; omega
      rw [← hn]
      cases htr : takeRow pk z p (s.drop t) with
      | none =>
        have KT0 : Hid (∀ W, Calls Try.prog 49 #[.string ⟨(s.drop t).toArray⟩, .int .i64 (z : Int), .int .i64 (p : Int), .bool pk] W fun e W' => (∃ t' k', e = .returned (.tuple #[.string ⟨t'⟩, .int .i64 k', .bool false])) ∧ Below W.heap.size W W') := Lib.hid fun W => (KT.out W).mono fun e W' h => by
          rcases h with ⟨hb, ⟨_, t', k', he⟩ | ⟨o, ho, _⟩⟩
          · exact ⟨⟨t', k', he⟩, hb⟩
          · rw [htr] at ho; cases ho
        have HNO : Hid (getT s = none) := Lib.hid (by rw [HFM.out, hst.out.none (by rw [← hn]; exact hlt) htr])
        clear htr KT hst hn hrq HFM FYES
        as_aux_lemma =>
        go_wp2_with fail
        go_region_held3 (fun w' => w'.cell? ⟨w.heap.size + 1, 0, none⟩ = some (.int .i64 (p : Int)) ∧ w'.cell? ⟨w.heap.size + 1, 2, none⟩ = some (.int .i64 (x16 : Int)))
          (refine ⟨?_, ?_⟩ <;> (first | with_reducible assumption | (rw [hby.cell (by (try dsimp only); omega)]; with_reducible assumption) | (go_keep; done)))
          ((go_at_call 49; refine (KT0.out _).mono ?_; clear KT0; rintro e wy ⟨⟨t', k', rfl⟩, hbx⟩; have hby : Below wr.heap.size wr wy := (Below.refl _ wr).drew.trans (hbx.mono (by simp))))
        have HZ := Lib.hid (hA.out.grown hby)
        clear d0 d1 d2 d3 hA hby hR
        have c0 := HZ.out.r.c 0 _ rfl
        have c1' := HZ.out.r.c 1 _ rfl
        have c2 := HZ.out.r.c 2 _ rfl
        have c3 := HZ.out.r.c 3 _ rfl
        have f0 := HZ.out.r.f 0
        have f1 := HZ.out.r.f 1
        have f2 := HZ.out.r.f 2
        have f3 := HZ.out.r.f 3
        have HZ2 := Lib.hid HZ.out.zero
        go_wp2_with fail
        generalize World.setCell _ ⟨w.heap.size, 3, none⟩ (.slice none 0 0) = V at *
        clear c0 c1' c2 c3 f0 f1 f2 f3
        have e0 := HZ2.out.1.c 0 _ rfl
        have e1 := HZ2.out.1.c 1 _ rfl
        have e2 := HZ2.out.1.c 2 _ rfl
        have e3 := HZ2.out.1.c 3 _ rfl
        exact bodyPost_ret (v := .tuple #[zimV, .int .i64 6]) (by simp [results, Try.results26, go_sem, e0, e1, e2, e3, zimV]) rfl (FNO.out _ HNO.out HZ2.out.2)
      | some o =>
        obtain ⟨j, hj, hoj⟩ := takeRow_drop htr
        rw [hdr] at hj
        rw [List.drop_drop] at hoj
        have KT1 : Hid (∀ W, Calls Try.prog 49 #[.string ⟨(s.drop t).toArray⟩, .int .i64 (z : Int), .int .i64 (p : Int), .bool pk] W fun e W' => e = .returned (.tuple #[.string ⟨o.1.toArray⟩, .int .i64 (j : Int), .bool true]) ∧ Below W.heap.size W W') := Lib.hid fun W => (KT.out W).mono fun e W' h => by
          rcases h with ⟨hb, ⟨ho, _⟩ | ⟨o', ho, he⟩⟩
          · rw [htr] at ho; cases ho
          · rw [htr] at ho; cases ho
            refine ⟨?_, hb⟩
            rw [he, hoj, hdr, List.length_drop, show (((s.length - t : Nat) : Int) - ((s.length - (t + j) : Nat) : Int)) = (j : Int) by omega]
        have hol := takeRow_out (packed := pk) (by omega) htr
        have HNX := Lib.hid (hst.out.some (by omega) (by rw [← hn]; exact hlt) htr)
        rw [hoj] at HNX
        have HOL := Lib.hid hol
        have hN1 : p * z ≤ 256 * 4 := Nat.mul_le_mul hp2 z4
        have KU := Lib.hid (fun W => turnref_any z p o.1 W HXZ.out.2 (by rw [hol]; omega) hol hp1)
        unfold SR at KU
        have wtj : IntKind.i64.wrap ((t : Int) + (j : Int)) = (t : Int) + (j : Int) := by rw [IntKind.wrap_i64]; omega
        have wq1 : IntKind.i64.wrap ((q : Int) - 1) = (q : Int) - 1 := by rw [IntKind.wrap_i64]; omega
        have wq2 : IntKind.i64.wrap ((q : Int) - 1 - (n : Int)) = (q : Int) - 1 - (n : Int) := by rw [IntKind.wrap_i64]; omega
        have HSS : Hid ((rowsSt z q tp rs).set (ordT q tp n) (turnedT z o.1) = rowsSt z q tp (rs ++ [o.1])) := Lib.hid (by rw [hn]; exact rowsSt_step (by rw [← hn]; exact hlt))
        have hRl : ((rowsSt z q tp rs).map strV).length = q := by rw [List.length_map, rowsSt_len hrq]
        have hlen1 : (rs ++ [o.1]).length = n + 1 := by simp [hn]
        have HL1 := Lib.hid hlen1
        have hjs : t + j ≤ s.length := by omega
        generalize hO1 : o.1 = O1 at *
        clear htr KT hst hn hrq hol hoj hO1 hlen1 HOL hj
        generalize hRR : rowsSt z q tp rs = RR at *
        clear hRR
        as_aux_lemma =>
        go_wp2_with fail
        go_region_held3 (fun w' => w'.cell? ⟨w.heap.size + 1, 0, none⟩ = some (.int .i64 (p : Int)) ∧ w'.cell? ⟨w.heap.size + 1, 2, none⟩ = some (.int .i64 (x16 : Int)))
          (refine ⟨?_, ?_⟩ <;> (first | with_reducible assumption | (rw [hby.cell (by (try dsimp only); omega)]; with_reducible assumption) | (go_keep; done)))
          ((go_at_call 49; refine (KT1.out _).mono ?_; clear KT1; rintro e wy ⟨rfl, hbx⟩; have hby : Below wr.heap.size wr wy := (Below.refl _ wr).drew.trans (hbx.mono (by simp))))
        have HA2 := Lib.hid (hA.out.grown hby)
        have HR2 := Lib.hid (hR.out.below hby hzr)
        have hz2 : wx.heap.size < wy.heap.size := Nat.lt_of_lt_of_le hzr hby.size
        clear d0 d1 d2 d3 hA hby hR hzr hsl
        have d1 := HA2.out.m.c 1 _ rfl
        have d2 := HA2.out.m.c 2 _ rfl
        have hy0 : ordT q tp n < q := ordT_lt tp hlt
        have hyg : ∃ u, (RR.map strV)[ordT q tp n]? = some u := ⟨_, List.getElem?_eq_getElem (by rw [hRl]; exact hy0)⟩
        obtain ⟨uy, huy⟩ := hyg
        have HUY := Lib.hid huy
        clear huy
        as_aux_lemma =>
        cases tp with
        | true =>
          have e7 : ordT q true n = n := rfl
          rw [e7] at HSS HUY hy0
          go_wp2_with fail
          refine (KU.out _).mono ?_
          clear KU
          rintro e wu ⟨rfl, hbu⟩
          have HA3 := Lib.hid (HA2.out.grown hbu)
          have HR3 := Lib.hid (HR2.out.below hbu hz2)
          have hz3 : wx.heap.size < wu.heap.size := Nat.lt_of_lt_of_le hz2 hbu.size
          clear HA2 HR2 hz2 hbu d1 d2
          have cy := HR3.out.c n _ HUY.out
          have fy := HR3.out.f n
          have i0 : (0 : Int) ≤ ((n : Nat) : Int) := by omega
          have i1 : ((n : Nat) : Int) < (q : Int) := by omega
          have HR4 := HR3.out.setAt n (by rw [hRl]; exact hy0) (strV (turnedT z O1))
          rw [← List.map_set, HSS.out] at HR4
          have HR5 := Lib.hid HR4
          have HA4 : Hid (RfAt w (wu.setCell ⟨wx.heap.size, n, none⟩ (strV (turnedT z O1))) [.int .i64 (p : Int), .int .i64 (q : Int), .int .i64 (x16 : Int), .slice none 0 0]) := Lib.hid ⟨HA3.out.r.otherJ wx.heap.size n (by omega) _, HA3.out.m.otherJ wx.heap.size n (by omega) _, by simpa using HA3.out.lt, HA3.out.below.setCell (p := ⟨wx.heap.size, n, none⟩) (by simp; omega) _⟩
          have hz4 : wx.heap.size < (wu.setCell ⟨wx.heap.size, n, none⟩ (strV (turnedT z O1))).heap.size := by simpa using hz3
          unfold strV at HA4 HR5 hz4
          clear HR4 HA3 HR3
          go_wp2_with fail
          go_roundw
          case rel => exact ⟨rs ++ [O1], t + j, by go_num, by rw [HL1.out]; go_num, hjs, HNX, by rw [HL1.out]; omega, HA4, by unfold strV; exact HR5, hz4⟩
          case measure => simp only [intOf]; omega
        | false =>
          have e7 : ordT q false n = q - 1 - n := rfl
          have e8 : ((q : Int) - 1 - (n : Int)) = ((q - 1 - n : Nat) : Int) := by omega
          rw [e7] at HSS HUY hy0
          rw [e8] at wq2
          clear e7
          go_wp2_with fail
          refine (KU.out _).mono ?_
          clear KU
          rintro e wu ⟨rfl, hbu⟩
          have HA3 := Lib.hid (HA2.out.grown hbu)
          have HR3 := Lib.hid (HR2.out.below hbu hz2)
          have hz3 : wx.heap.size < wu.heap.size := Nat.lt_of_lt_of_le hz2 hbu.size
          clear HA2 HR2 hz2 hbu d1 d2
          have cy := HR3.out.c (q - 1 - n) _ HUY.out
          have fy := HR3.out.f (q - 1 - n)
          have i0 : (0 : Int) ≤ (((q - 1 - n) : Nat) : Int) := by omega
          have i1 : (((q - 1 - n) : Nat) : Int) < (q : Int) := by omega
          have HR4 := HR3.out.setAt (q - 1 - n) (by rw [hRl]; exact hy0) (strV (turnedT z O1))
          rw [← List.map_set, HSS.out] at HR4
          have HR5 := Lib.hid HR4
          have HA4 : Hid (RfAt w (wu.setCell ⟨wx.heap.size, (q - 1 - n), none⟩ (strV (turnedT z O1))) [.int .i64 (p : Int), .int .i64 (q : Int), .int .i64 (x16 : Int), .slice none 0 0]) := Lib.hid ⟨HA3.out.r.otherJ wx.heap.size (q - 1 - n) (by omega) _, HA3.out.m.otherJ wx.heap.size (q - 1 - n) (by omega) _, by simpa using HA3.out.lt, HA3.out.below.setCell (p := ⟨wx.heap.size, (q - 1 - n), none⟩) (by simp; omega) _⟩
          have hz4 : wx.heap.size < (wu.setCell ⟨wx.heap.size, (q - 1 - n), none⟩ (strV (turnedT z O1))).heap.size := by simpa using hz3
          unfold strV at HA4 HR5 hz4
          clear HR4 HA3 HR3
          go_wp2_with fail
          go_roundw
          case rel => exact ⟨rs ++ [O1], t + j, by go_num, by rw [HL1.out]; go_num, hjs, HNX, by rw [HL1.out]; omega, HA4, by unfold strV; exact HR5, hz4⟩
          case measure => simp only [intOf]; omega
    · have hrq2 : rs.length = q := by omega
      have t0 : decide ((rs.length : Int) < (q : Int)) = false := decide_eq_false (by omega)
      have t0n : decide (rs.length < q) = false := decide_eq_false (by omega)
      have hdn := hst.out.done hrq2
      by_cases hft : s.drop t = footT
      · have t7 : (s.drop t == footT) = true := by rw [hft]; simp
        unfold footT at t7
        have HOK : Hid (getT s = some ⟨p, q, z, dataT z tp rs⟩) := Lib.hid (by rw [HFM.out, hdn]; simp [hft])
        have HDT : Hid ((rowsSt z q tp rs).flatten = dataT z tp rs) := Lib.hid (rowsSt_done hrq2)
        have HRM : Hid (∀ r ∈ rowsSt z q tp rs, r.length = p * z) := Lib.hid (rowsSt_mem hrq2 hst.out.2.1)
        have hRl := rowsSt_len (z := z) (top := tp) (q := q) (rs := rs) hrq
        generalize hRR : rowsSt z q tp rs = RR at *
        generalize hDD : dataT z tp rs = DD at *
        have HRL := Lib.hid hRl
        clear hft hdn hst hRR hDD HFM hrq2 hRl hrq
        as_aux_lemma =>
        go_wp2_with fail
        obtain ⟨i0, hi0, hz0, hzz1, hzz2⟩ := info_parts size_u8
        obtain ⟨N, hN⟩ : ∃ N, N = p * z := ⟨_, rfl⟩
        have hN1 : N ≤ 1024 := by rw [hN]; exact Nat.le_trans (Nat.mul_le_mul hp2 z4) (by omega)
        have hN0 : 0 < N := by rw [hN]; exact Nat.mul_pos hp1 z1
        rw [← hN] at HRM
        clear hN d0 d1 d2 d3 hsl t7 hdr
        obtain ⟨wo, hwo⟩ : ∃ x : World, x = wr := ⟨_, rfl⟩
        subst hwo
        as_aux_lemma =>
        go_loopw [14] (fun i wq => ∃ (k : Nat) (A' : Option Addr) (c' : Nat), k ≤ q ∧ i = .int .i64 (k : Int) ∧ Hid (SlotN wq (w.heap.size + 1) [.int .i64 (p : Int), .int .i64 (q : Int), .int .i64 (x16 : Int), .slice A' (k * N) c']) ∧
          wq.ownsRow (wx.heap.size + 1) 5 1 (.slice A' (k * N) c') (k * N) (Lib.byteCells (RR.take k).flatten) ∧ Hid (SlotN wq w.heap.size zim) ∧ Hid (SlotN wq wx.heap.size (RR.map strV)) ∧ Hid (Below w.heap.size w wq) ∧ wx.heap.size < wq.heap.size) (fun i _ => q - (intOf i).toNat)
        case atStart => exact ⟨0, none, 0, Nat.zero_le _, rfl, by rw [Nat.zero_mul]; exact Lib.hid hA.out.m, by rw [Nat.zero_mul, List.take_zero]; exact World.ownsRow_nil _ _ _ _, Lib.hid hA.out.r, hR, Lib.hid hA.out.below, hzr⟩
        case round =>
          obtain ⟨k, A', c', hk, rfl, HM2, hown, HS2, HRR, HBr, hzr2⟩ := hrel
          clear hA hR hzr hltr
          have hkN : k * N ≤ 256 * 1024 := Nat.mul_le_mul (by omega) hN1
          by_cases hlt : k < q
          · have k0 : (0 : Int) ≤ (k : Int) := by omega
            have k1 : (k : Int) < (q : Int) := by omega
            have t3 : decide ((k : Int) < (q : Int)) = true := decide_eq_true (by omega)
            have t3n : decide (k < q) = true := decide_eq_true (by omega)
            obtain ⟨r, hr⟩ : ∃ r, RR[k]? = some r := ⟨_, List.getElem?_eq_getElem (by rw [HRL.out]; exact hlt)⟩
            have hrl := HRM.out r (List.mem_of_getElem? hr)
            have HT : Hid ((RR.take (k + 1)).flatten = (RR.take k).flatten ++ r) := Lib.hid (by rw [take_snoc' _ _ _ hr]; simp)
            have cr : wr.cell? ⟨wx.heap.size, k, none⟩ = some (.string ⟨r.toArray⟩) := HRR.out.c k _ (by rw [List.getElem?_map, hr]; rfl)
            clear hr
            have hcv := run_bytes_of_string (P := Try.prog) wr 9 22 5 ⟨r.toArray⟩ Try.underlying9 Try.underlying22 Try.underlying5
            have hsz : (⟨r.toArray⟩ : ByteArray).size = N := hrl
            obtain ⟨cp, hcap⟩ : ∃ c, c = grownCap wr N 0 5 := ⟨_, rfl⟩
            have hcap2 : N ≤ cp := by rw [hcap]; exact grownCap_ge _ _ _ _
            have r0 := RowN.of_bytes wr r cp (by rw [hrl]; exact hcap2) 5
            rw [hsz, ← hcap] at hcv
            have hb0 : Below wr.heap.size wr (wr.drew.alloc (.cells (bytesRow ⟨r.toArray⟩ cp) 5 ((bytesRow ⟨r.toArray⟩ cp).size, (bytesRow ⟨r.toArray⟩ cp).size + 1))) := (Below.refl _ _).drew.alloc (Nat.le_refl _) _
            have HO8 := Lib.hid (hown.drew.alloc (.cells (bytesRow ⟨r.toArray⟩ cp) 5 ((bytesRow ⟨r.toArray⟩ cp).size, (bytesRow ⟨r.toArray⟩ cp).size + 1)))
            have hz8 : wr.heap.size < (wr.drew.alloc (.cells (bytesRow ⟨r.toArray⟩ cp) 5 ((bytesRow ⟨r.toArray⟩ cp).size, (bytesRow ⟨r.toArray⟩ cp).size + 1))).heap.size := by simp
            generalize (wr.drew.alloc (.cells (bytesRow ⟨r.toArray⟩ cp) 5 ((bytesRow ⟨r.toArray⟩ cp).size, (bytesRow ⟨r.toArray⟩ cp).size + 1))) = V8 at *
            clear hsz hcap
            have HB8 := Lib.hid (HBr.out.trans (hb0.mono HBr.out.size))
            have HM8 := Lib.hid (HM2.out.below hb0 (by omega))
            have HS8 := Lib.hid (HS2.out.below hb0 (by omega))
            have HR8 := Lib.hid (HRR.out.below hb0 hzr2)
            have HN8 : Hid (∀ j u, (Lib.byteCells r)[j]? = some u → V8.cell? ((⟨wr.heap.size, 0, none⟩ : Addr).add j) = some u) := Lib.hid fun j u hu => by
              rw [addr_lit]
              unfold Lib.byteCells at hu
              rw [List.getElem?_map] at hu
              cases hj : r[j]? with
              | none => rw [hj] at hu; cases hu
              | some b =>
                rw [hj] at hu
                simp only [Option.map_some, Option.some.injEq] at hu
                subst hu
                exact r0.c j b.toNat (by rw [List.getElem?_map, hj]; rfl)
            have hl8 : (Lib.byteCells r).length = N * 1 := by rw [bytes_len]; omega
            have HONE := Lib.hid (bytes_one r)
            have m8 := HM8.out.c 3 _ rfl
            have hbz : w.heap.size + 1 < V8.heap.size := by omega
            have hbz2 : wx.heap.size + 1 ≤ V8.heap.size := by omega
            have hbz3 : wx.heap.size < V8.heap.size := by omega
            have wk1 : IntKind.i64.wrap ((k : Int) + 1) = (k : Int) + 1 := by rw [IntKind.wrap_i64]; omega
            clear HM2 HS2 HRR HBr hown hb0 r0
            go_wp2_with (at_builtin; refine wpList_append_lies _ rfl (.tmp 146) (.tmp 147) _ rfl (wx.heap.size + 1) 5 i0 _ 1 1 Try.underlying22 hi0 hz0 hzz1 hzz2 rfl (by decide) (.slice A' (k * N) c') (k * N) (Lib.byteCells (RR.take k).flatten) rfl HO8.out ⟨wr.heap.size, 0, none⟩ N cp (Lib.byteCells r) rfl hl8 HN8.out HONE.out hN0 (by unfold maxLen; omega) (by omega) hbz2 _ rfl ?_; intro gg cap w9 hown9 hgr9 hat9 hlt9; have hne9 : some (w.heap.size + 1) ≠ (Value.slice A' (k * N) c').ownBlock := (fun e => by have := (HO8.out.lt _ e.symm).1; omega); have HM9 := Lib.hid (slot_far HM8.out hgr9 hne9 hbz); have HS9 := Lib.hid (slot_far HS8.out hgr9 (fun e => by have := (HO8.out.lt _ e.symm).1; omega) (by omega)); have HR9 := Lib.hid (slot_far HR8.out hgr9 (fun e => by have := (HO8.out.lt _ e.symm).1; omega) hbz3); have HB9 := Lib.hid (HB8.out.grown hgr9 HB8.out.size (fun j hj => by have := (HO8.out.lt _ hj).1; omega)); have HO9 := Lib.hid hown9; have m9 := HM9.out.c 3 _ rfl; have f9 := HM9.out.f 3; have hz9 : wx.heap.size < w9.heap.size := Nat.lt_of_lt_of_le hbz3 hgr9.size; clear hown9 hgr9 hne9 hat9)
            have HM10 := Lib.hid (HM9.out.setAt 3 (by simp) (.slice (some ⟨gg, 0, none⟩) (k * N + N) cap))
            have HS10 := Lib.hid (HS9.out.otherJ (w.heap.size + 1) 3 (by omega) (.slice (some ⟨gg, 0, none⟩) (k * N + N) cap))
            have HR10 := Lib.hid (HR9.out.otherJ (w.heap.size + 1) 3 (by omega) (.slice (some ⟨gg, 0, none⟩) (k * N + N) cap))
            have HB10 := Lib.hid (HB9.out.setCell (p := ⟨w.heap.size + 1, 3, none⟩) (by simp) (.slice (some ⟨gg, 0, none⟩) (k * N + N) cap))
            have HO10 := Lib.hid (own_kept HO9.out (grown_set _ (w.heap.size + 1) 3 (.slice (some ⟨gg, 0, none⟩) (k * N + N) cap)) (by omega))
            have HE : Hid (Lib.byteCells (RR.take k).flatten ++ Lib.byteCells r = Lib.byteCells (RR.take (k + 1)).flatten) := Lib.hid (by rw [HT.out]; simp [Lib.byteCells])
            have hz10 : wx.heap.size < (w9.setCell ⟨w.heap.size + 1, 3, none⟩ (.slice (some ⟨gg, 0, none⟩) (k * N + N) cap)).heap.size := by simpa using hz9
            clear HM8 HS8 HB8 HO8 HN8 HR8 m9 f9 HM9 HS9 HB9 HO9 HR9 hz9 hz8 m8 hcv hl8 hbz hbz2 hbz3
            go_roundw
            case rel => exact ⟨k + 1, some ⟨gg, 0, none⟩, cap, by omega, by go_num, by rw [Nat.succ_mul]; exact HM10, by rw [Nat.succ_mul, ← HE.out]; exact HO10.out, HS10, HR10, HB10, hz10⟩
            case measure => simp only [intOf]; omega
          · have t3 : decide ((k : Int) < (q : Int)) = false := decide_eq_false (by omega)
            have t3n : decide (k < q) = false := decide_eq_false (by omega)
            obtain rfl : k = q := by omega
            have m0 := HM2.out.c 0 _ rfl
            have m1 := HM2.out.c 1 _ rfl
            have m2 := HM2.out.c 2 _ rfl
            have m3 := HM2.out.c 3 _ rfl
            have s0 := HS2.out.c 0 _ rfl
            have s1 := HS2.out.c 1 _ rfl
            have s2 := HS2.out.c 2 _ rfl
            have s3 := HS2.out.c 3 _ rfl
            have f0 := HS2.out.f 0
            have f1 := HS2.out.f 1
            have f2 := HS2.out.f 2
            have f3 := HS2.out.f 3
            have HQ := Lib.hid ((((HS2.out.setAt 0 (by simp [zim]) (.int .i64 (p : Int))).setAt 1 (by simp [zim]) (.int .i64 (k : Int))).setAt 2 (by simp [zim]) (.int .i64 (x16 : Int))).setAt 3 (by simp [zim]) (.slice A' (k * N) c'))
            have HB3 := Lib.hid ((((HBr.out.setCell (p := ⟨w.heap.size, 0, none⟩) (Nat.le_refl _) (.int .i64 (p : Int))).setCell (p := ⟨w.heap.size, 1, none⟩) (Nat.le_refl _) (.int .i64 (k : Int))).setCell (p := ⟨w.heap.size, 2, none⟩) (Nat.le_refl _) (.int .i64 (x16 : Int))).setCell (p := ⟨w.heap.size, 3, none⟩) (Nat.le_refl _) (.slice A' (k * N) c'))
            have HO := Lib.hid (own_kept (own_kept (own_kept (own_kept hown (grown_set _ w.heap.size 0 (.int .i64 (p : Int))) (by omega)) (grown_set _ w.heap.size 1 (.int .i64 (k : Int))) (by omega)) (grown_set _ w.heap.size 2 (.int .i64 (x16 : Int))) (by omega)) (grown_set _ w.heap.size 3 (.slice A' (k * N) c')) (by omega))
            have HV : Hid ((RR.take k).flatten = DD) := Lib.hid (by rw [List.take_of_length_le (by rw [HRL.out]; exact Nat.le_refl _)]; exact HDT.out)
            clear hown HS2 HBr HM2 HRR
            go_wp2_with fail
            generalize World.setCell _ ⟨w.heap.size, 3, none⟩ (.slice A' (k * N) c') = V at *
            clear s0 s1 s2 s3 f0 f1 f2 f3 m0 m1 m2 m3
            have e0 := HQ.out.c 0 _ rfl
            have e1 := HQ.out.c 1 _ rfl
            have e2 := HQ.out.c 2 _ rfl
            have e3 := HQ.out.c 3 _ rfl
            have HO' := HO.out
            rw [HV.out] at HO'
            have hcp := own_cap HO'
            have e8 : (x16 : Int) = ((8 * z : Nat) : Int) := by rw [HXZ.out.1]
            have HF := FYES.out _ A' (k * N) c' _ HOK.out ⟨Rd.of_own HO', by have := hcp.1; have := hcp.2; omega⟩ hcp.1 hcp.2 HB3.out
            dsimp only [imV] at HF
            rw [← e8] at HF
            exact bodyPost_ret (v := .tuple #[.agg #[.int .i64 (p : Int), .int .i64 (k : Int), .int .i64 (x16 : Int), .slice A' (k * N) c'], .int .i64 0]) (by simp [results, Try.results26, go_sem, e0, e1, e2, e3]) rfl HF
      · have t7 : (s.drop t == footT) = false := by rw [beq_eq_false_iff_ne]; exact hft
        unfold footT at t7
        have HNO : Hid (getT s = none) := Lib.hid (by rw [HFM.out, hdn]; simp [hft])
        have HZ := hA
        clear hft hdn hst HFM FYES hA hR
        as_aux_lemma =>
        have c0 := HZ.out.r.c 0 _ rfl
        have c1' := HZ.out.r.c 1 _ rfl
        have c2 := HZ.out.r.c 2 _ rfl
        have c3 := HZ.out.r.c 3 _ rfl
        have f0 := HZ.out.r.f 0
        have f1 := HZ.out.r.f 1
        have f2 := HZ.out.r.f 2
        have f3 := HZ.out.r.f 3
        have HZ2 := Lib.hid HZ.out.zero
        go_wp2_with fail
        generalize World.setCell _ ⟨w.heap.size, 3, none⟩ (.slice none 0 0) = V at *
        clear c0 c1' c2 c3 f0 f1 f2 f3
        have e0 := HZ2.out.1.c 0 _ rfl
        have e1 := HZ2.out.1.c 1 _ rfl
        have e2 := HZ2.out.1.c 2 _ rfl
        have e3 := HZ2.out.1.c 3 _ rfl
        exact bodyPost_ret (v := .tuple #[zimV, .int .i64 6]) (by simp [results, Try.results26, go_sem, e0, e1, e2, e3, zimV]) rfl (FNO.out _ HNO.out HZ2.out.2)
end Go.Proofs.Ytfkkppagbhllgaa

/-
  THE WALK OF limewashref29.Get, whole.
-/
set_option linter.unusedVariables false
set_option linter.unusedSimpArgs false
namespace Go.Proofs.Ytfkkppagbhllgaa
open Go.RowKit

theorem getref_any (s : List UInt8) (w : World) (hl : s.length ≤ 1000000) : Calls Try.prog 26 #[.string ⟨s.toArray⟩] w (GetRes s w) := by
  by_cases h18 : s.length < 18
  · exact getref_short s w h18
  · cases hh : headOk s with
    | false => exact getref_bad s w hl (by omega) hh
    | true =>
      have h := hh
      unfold headOk formT at h
      simp only [Bool.and_eq_true, decide_eq_true_eq] at h
      rcases h.1.2.2.2.2 with hb | hb
      · exact getref_good24 s w hl (by omega) hh (by omega)
      · exact getref_good32 s w hl (by omega) hh (by omega)
end Go.Proofs.Ytfkkppagbhllgaa

/-
  THE LAW TgaGets.
-/
set_option linter.unusedVariables false
set_option linter.unusedSimpArgs false
set_option maxRecDepth 100000
namespace Go.Proofs.Ytfkkppagbhllgaa
open Go.RowKit

/-- what is got, as numbers, bytes and an error's number -/
structure Got where
  a : Int
  b : Int
  c : Int
  d : List UInt8
  e : Int
def gotT (s : List UInt8) : Got := match getT s with
  | none => ⟨0, 0, 0, [], 6⟩
  | some m => ⟨m.w, m.h, ((8 * m.z : Nat) : Int), m.d, 0⟩
def GotRes (g : Got) (w : World) (e : Ending) (w' : World) : Prop := Below w.heap.size w w' ∧ ∃ A n c, e = .returned (.tuple #[imV g.a g.b g.c A n c, .int .i64 g.e]) ∧ Byts w' w'.heap.size A n g.d
theorem GetRes.got {s : List UInt8} {w w' : World} {e : Ending} (h : GetRes s w e w') : GotRes (gotT s) w e w' := by
  obtain ⟨hb, h⟩ := h
  refine ⟨hb, ?_⟩
  unfold gotT
  rcases h with ⟨h, rfl⟩ | ⟨m, A, n, c, h, rfl, h1, _, _⟩
  · rw [h]
    exact ⟨none, 0, 0, rfl, ⟨Rd.nil, by omega⟩⟩
  · rw [h]
    exact ⟨A, n, c, rfl, h1⟩
set_option maxHeartbeats 1600000 in
theorem gets_row (s : List UInt8) (w : World) (bs : s.length ≤ 9223372036854775807) :
    Calls Try.prog 4 #[.string ⟨s.toArray⟩] w fun e w' => e = .returned (.bool true) ∧ Below w.heap.size w w' := by
  by_cases hs : 1500 < s.length
  · have t1 : decide ((1500 : Int) < (s.length : Int)) = true := decide_eq_true (by omega)
    clear bs hs
    go_enter Try.func4, Try.ntmps4
    go_wp2_with fail
    go_ret
    exact ⟨rfl, Below.refl _ _⟩
  have t1 : decide ((1500 : Int) < (s.length : Int)) = false := decide_eq_false (by omega)
  have KG := Lib.hid (fun W => (get_any s W (by omega)).mono fun e W' h => h.got)
  have KR := Lib.hid (fun W => (getref_any s W (by omega)).mono fun e W' h => h.got)
  unfold GotRes at KG KR
  generalize gotT s = g at *
  obtain ⟨ga, gb, gc, gd, ge⟩ := g
  dsimp only at KG KR
  unfold imV at KG KR
  clear bs hs
  go_enter Try.func4, Try.ntmps4
  go_wp2_with fail
  refine (KG.out _).mono ?_
  clear KG
  rintro e w1 ⟨hb1, A, n, c, rfl, hy⟩
  have hbb : Below w1.heap.size w1 (w1.alloc (.cells #[.int .i64 ga, .int .i64 gb, .int .i64 gc, .slice A n c] 24)) := (Below.refl _ _).alloc (Nat.le_refl _) _
  have HM2 := Lib.hid (SlotN.new w1 [.int .i64 ga, .int .i64 gb, .int .i64 gc, .slice A n c] #[.int .i64 ga, .int .i64 gb, .int .i64 gc, .slice A n c] 24 rfl)
  have HB2 := Lib.hid (hb1.trans (hbb.mono hb1.size))
  have HY2 := Lib.hid ((hy.below hbb (Nat.le_refl _)).more hbb.size)
  have hz2 : w1.heap.size < (w1.alloc (.cells #[.int .i64 ga, .int .i64 gb, .int .i64 gc, .slice A n c] 24)).heap.size := by simp
  clear hb1 hbb hy
  go_wp2_with fail
  generalize (w1.alloc (.cells #[.int .i64 ga, .int .i64 gb, .int .i64 gc, .slice A n c] 24)) = W2 at *
  refine (KR.out _).mono ?_
  clear KR
  rintro e w3 ⟨hb3, A', n', c', rfl, hy⟩
  have HM3 := Lib.hid (HM2.out.below hb3 hz2)
  have HB3 := Lib.hid (HB2.out.trans (hb3.mono HB2.out.size))
  have HY3 := Lib.hid ((HY2.out.below hb3 (Nat.le_refl _)).more hb3.size)
  have HX3 := Lib.hid hy
  have hz3 : w1.heap.size < w3.heap.size := Nat.lt_of_lt_of_le hz2 hb3.size
  clear HM2 HB2 HY2 hz2 hb3 hy
  have hbb : Below w3.heap.size w3 (w3.alloc (.cells #[.int .i64 ga, .int .i64 gb, .int .i64 gc, .slice A' n' c'] 24)) := (Below.refl _ _).alloc (Nat.le_refl _) _
  have HN5 := Lib.hid (SlotN.new w3 [.int .i64 ga, .int .i64 gb, .int .i64 gc, .slice A' n' c'] #[.int .i64 ga, .int .i64 gb, .int .i64 gc, .slice A' n' c'] 24 rfl)
  have HM5 := Lib.hid (HM3.out.below hbb hz3)
  have HB5 := Lib.hid (HB3.out.trans (hbb.mono HB3.out.size))
  have HY5 := Lib.hid ((HY3.out.below hbb (Nat.le_refl _)).more hbb.size)
  have HX5 := Lib.hid ((HX3.out.below hbb (Nat.le_refl _)).more hbb.size)
  have hz5 : w3.heap.size < (w3.alloc (.cells #[.int .i64 ga, .int .i64 gb, .int .i64 gc, .slice A' n' c'] 24)).heap.size := by simp
  clear HM3 HB3 HY3 HX3 hbb
  go_wp2_with fail
  generalize (w3.alloc (.cells #[.int .i64 ga, .int .i64 gb, .int .i64 gc, .slice A' n' c'] 24)) = W5 at *
  refine (pictured_any _).mono ?_
  rintro e w6 ⟨rfl, hb6⟩
  have HM6 := Lib.hid (HM5.out.below hb6 (Nat.lt_trans hz3 hz5))
  have HN6 := Lib.hid (HN5.out.below hb6 hz5)
  have HB6 := Lib.hid (HB5.out.trans (hb6.mono HB5.out.size))
  have HY6 := Lib.hid ((HY5.out.below hb6 (Nat.le_refl _)).more hb6.size)
  have HX6 := Lib.hid ((HX5.out.below hb6 (Nat.le_refl _)).more hb6.size)
  clear HM5 HN5 HB5 HY5 HX5 hz5 hb6
  have m0 := HM6.out.c 0 _ rfl
  have m1 := HM6.out.c 1 _ rfl
  have m2 := HM6.out.c 2 _ rfl
  have m3 := HM6.out.c 3 _ rfl
  have n0 := HN6.out.c 0 _ rfl
  have n1 := HN6.out.c 1 _ rfl
  have n2 := HN6.out.c 2 _ rfl
  have n3 := HN6.out.c 3 _ rfl
  have ks := same_im w6.heap.size ga gb gc A n c gd ga gb gc A' n' c' gd w6 HY6.out HX6.out (Nat.le_refl _)
  simp only [BEq.rfl, Bool.and_self] at ks
  unfold imV at ks
  have KS := Lib.hid ks
  clear ks
  go_wp2_with fail
  refine KS.out.mono ?_
  rintro e w8 ⟨rfl, hb8⟩
  have HB8 := Lib.hid (HB6.out.trans (hb8.mono HB6.out.size))
  clear hb8 m0 m1 m2 m3 n0 n1 n2 n3
  go_wp2_with fail
  go_ret
  exact ⟨rfl, HB8.out⟩
end Go.Proofs.Ytfkkppagbhllgaa

/-
  READING ARGUMENTS: slices of ints, of points and of rectangles, structs by value. Nothing of the program is named here.
-/
set_option linter.unusedVariables false
set_option linter.unusedSimpArgs false
namespace Go.Proofs.Ytfkkppagbhllgaa
open Go.ChangeShapes Go.WideShapes Go.ChangeAt Go.RowKit Go.Deep

def intFields (P : Program) (fs : Array Field) : Bool := fs.toList.all fun f => match P.underlying f.type with | some (.int .i64) => true | _ => false
theorem intFields_get {P : Program} {fs : Array Field} (h : intFields P fs = true) {j : Nat} {f : Field} (hj : fs[j]? = some f) : P.underlying f.type = some (.int .i64) := by
  have h1 := List.all_eq_true.1 h f (List.mem_of_getElem? (i := j) (by simpa using hj))
  revert h1
  cases P.underlying f.type with
  | none => intro h1; cases h1
  | some d =>
    cases d with
    | int k => cases k <;> intro h1 <;> first | rfl | cases h1
    | _ => intro h1; cases h1

section
variable {H : Type} {enc : TypeId × Value → H} {P : Program} {w : World}

theorem read_ints {r : Reach} {b0 : Nat} {t e : TypeId} {v : Value} {d : DataW H} {p : List MemPlace} (ht : P.underlying t = some (.slice e)) (he : P.underlying e = some (.int .i64)) (hc : P.cellsOf e = 1)
    (hv : Value.okWide P w r b0 t v) (h : DataW.Trod enc P w 0 (fun _ => true) true t v d p) :
    ∃ A n c xs, v = .slice A n c ∧ n ≤ c ∧ c ≤ maxLen ∧ Ints w w.heap.size A n xs := by
  obtain ⟨a0, len, cap, rfl⟩ := okWide_slice ht hv
  obtain ⟨fuel, hf⟩ := h
  rcases open_ints ht he hc hf with ⟨hcs, _⟩ | ⟨a, len', cap', zs, hcs, _, hl, hm, hz, _, hcell, hwz⟩
  · simp [Value.cells] at hcs
    obtain ⟨rfl, rfl, rfl⟩ := hcs
    exact ⟨none, 0, 0, [], rfl, Nat.le_refl _, Nat.zero_le _, Rd.nil, fun x hx => by simp at hx, by omega⟩
  · simp [Value.cells] at hcs
    obtain ⟨rfl, rfl, rfl⟩ := hcs
    simp only [if_true] at hz
    unfold maxLen at hm
    refine ⟨some a, len, cap, zs.take len, rfl, hl, by unfold maxLen; omega, ⟨by simp [cellsI]; omega, fun hn => ⟨a, rfl, ?_, fun j u hu => ?_⟩⟩, fun x hx => bounds_i64 (hwz x (List.mem_of_mem_take hx)), by omega⟩
    · have := World.block_lt_of_cell? w _ (hcell 0 (by omega))
      rwa [show a.add 0 = a from rfl] at this
    · have hj : j < len := by
        have := (List.getElem?_eq_some_iff.1 hu).1
        simp [cellsI] at this; omega
      rw [hcell j (by omega), ← hu, cellsI_get, List.getElem?_take, if_pos hj, List.getElem?_eq_getElem (by omega)]
      simp [List.getD_eq_getElem?_getD, List.getElem?_eq_getElem (show j < zs.length by omega)]

/-- A slice of structs of ints, cell by cell. -/
theorem read_structs {r : Reach} {b0 : Nat} {t e : TypeId} {fs : Array Field} {v : Value} {d : DataW H} {p : List MemPlace} (ht : P.underlying t = some (.slice e)) (he : P.underlying e = some (.struct fs))
    (hone : oneCellFields P fs = true) (hC : P.cellsOf e = fs.size) (hint : intFields P fs = true)
    (hv : Value.okWide P w r b0 t v) (h : DataW.Trod enc P w 0 (fun _ => true) true t v d p) :
    (v = .slice none 0 0) ∨ ∃ (a : Addr) (n c : Nat), v = .slice (some a) n c ∧ n ≤ c ∧ c ≤ maxLen ∧ ∀ i, i < c → ∀ j, j < fs.size → ∃ x : Int, w.cell? (a.add (i * fs.size + j)) = some (.int .i64 x) ∧ -9223372036854775808 ≤ x ∧ x ≤ 9223372036854775807 := by
  obtain ⟨a0, len, cap, rfl⟩ := okWide_slice ht hv
  obtain ⟨fuel, hf⟩ := h
  rcases open_slice ht hf with ⟨hcs, _⟩ | ⟨a, len', cap', m, n, D, Pl, hcs, hb, hl, hm, hmm, hx, hi⟩
  · simp [Value.cells] at hcs
    obtain ⟨rfl, rfl, rfl⟩ := hcs
    exact .inl rfl
  · simp [Value.cells] at hcs
    obtain ⟨rfl, rfl, rfl⟩ := hcs
    simp only [if_true] at hmm
    subst hmm
    refine .inr ⟨a, len, m, rfl, hl, hm, fun i him j hj => ?_⟩
    obtain ⟨cs', hc, ht'⟩ := hi i him
    rw [hC] at hc
    obtain ⟨ys, n', hn', hy, hlen, hyl, hfd⟩ := DataW.trod_struct he ht'
    obtain ⟨_, hcl, hat⟩ := World.cells?_some hc
    have hfj : fs[j]? = some (fs[j]) := Array.getElem?_eq_getElem hj
    obtain ⟨ho, hk⟩ := hone_of hone j _ hfj
    have h1 := hfd j _ hfj
    rw [ho, hk] at h1
    have hone' : (cs'.drop j).take 1 = [cs'[j]'(by omega)] := by
      rw [List.drop_eq_getElem_cons (by omega)]
      rfl
    rw [hone'] at h1
    have hys : ys[j]? = some (ys[j]'(by omega)) := List.getElem?_eq_getElem (by omega)
    obtain ⟨x, e1, _, e3⟩ := DataW.trod_int (intFields_get hint hfj) (h1.trans hys)
    injection e1 with e1
    refine ⟨x, ?_, bounds_i64 e3⟩
    rw [← Go.Deep.add_add, hat j hj, List.getElem?_eq_getElem (by omega), e1]
end

/-- a list by its places -/
theorem list_of {α : Type} (n : Nat) (f : Nat → α → Prop) (h : ∀ i, i < n → ∃ x, f i x) : ∃ l : List α, l.length = n ∧ ∀ i x, l[i]? = some x → f i x := by
  induction n with
  | zero => exact ⟨[], rfl, fun i x hx => by simp at hx⟩
  | succ n ih =>
    obtain ⟨l, hl, hf⟩ := ih (fun i hi => h i (by omega))
    obtain ⟨x, hx⟩ := h n (by omega)
    refine ⟨l ++ [x], by simp [hl], fun i y hy => ?_⟩
    rcases Nat.lt_or_ge i l.length with hi | hi
    · rw [List.getElem?_append_left hi] at hy; exact hf i y hy
    · have hi' : i = n := by
        have := (List.getElem?_eq_some_iff.1 hy).1
        simp at this; omega
      subst hi'
      rw [List.getElem?_append_right hi] at hy
      simp [hl] at hy
      subst hy; exact hx

section
variable {H : Type} {enc : TypeId × Value → H} {P : Program} {w : World}
theorem read_pts {r : Reach} {b0 : Nat} {t e : TypeId} {fs : Array Field} {v : Value} {d : DataW H} {p : List MemPlace} (ht : P.underlying t = some (.slice e)) (he : P.underlying e = some (.struct fs))
    (hone : oneCellFields P fs = true) (hC : P.cellsOf e = fs.size) (h2 : fs.size = 2) (hint : intFields P fs = true)
    (hv : Value.okWide P w r b0 t v) (h : DataW.Trod enc P w 0 (fun _ => true) true t v d p) :
    ∃ A n c l, v = .slice A n c ∧ n ≤ c ∧ c ≤ maxLen ∧ Pts w w.heap.size A n l := by
  rcases read_structs ht he hone hC hint hv h with rfl | ⟨a, n, c, rfl, hn, hc, hcell⟩
  · exact ⟨none, 0, 0, [], rfl, Nat.le_refl _, Nat.zero_le _, Rd.nil, fun x hx => by simp at hx, by omega⟩
  · rw [h2] at hcell
    obtain ⟨l, hl, hf⟩ := list_of n (fun i (p : Pt) => w.cell? (a.add (i * 2 + 0)) = some (.int .i64 p.x) ∧ w.cell? (a.add (i * 2 + 1)) = some (.int .i64 p.y) ∧ p.b) (fun i hi => by
      obtain ⟨x, hx, bx⟩ := hcell i (by omega) 0 (by omega)
      obtain ⟨y, hy, by'⟩ := hcell i (by omega) 1 (by omega)
      exact ⟨⟨x, y⟩, hx, hy, bx, by'⟩)
    refine ⟨some a, n, c, l, rfl, hn, hc, ⟨by rw [cellsP_length, hl], fun h0 => ⟨a, rfl, ?_, fun j u hu => ?_⟩⟩, fun p hp => ?_, by unfold maxLen at hc; omega⟩
    · obtain ⟨x, hx, _⟩ := hcell 0 (by omega) 0 (by omega)
      exact World.block_lt_of_cell? w _ hx
    · have hj : j < n * 2 := by
        have := (List.getElem?_eq_some_iff.1 hu).1
        rw [cellsP_length] at this; omega
      have e1 : j = j / 2 * 2 + j % 2 := by omega
      rw [e1] at hu ⊢
      rw [cellsP, flat_get cells2 2 (fun _ => rfl) l _ _ (by omega)] at hu
      have hx : l[j / 2]? = some (l[j / 2]'(by omega)) := List.getElem?_eq_getElem (by omega)
      rw [hx] at hu
      obtain ⟨f1, f2, _⟩ := hf _ _ hx
      rcases (show j % 2 = 0 ∨ j % 2 = 1 by omega) with h | h <;> rw [h] at hu ⊢ <;> simp [cells2] at hu <;> subst hu
      · exact f1
      · exact f2
    · obtain ⟨i, hi, he⟩ := List.getElem_of_mem hp
      exact (hf i p (by rw [List.getElem?_eq_getElem hi, he])).2.2
theorem read_rects {r : Reach} {b0 : Nat} {t e : TypeId} {fs : Array Field} {v : Value} {d : DataW H} {p : List MemPlace} (ht : P.underlying t = some (.slice e)) (he : P.underlying e = some (.struct fs))
    (hone : oneCellFields P fs = true) (hC : P.cellsOf e = fs.size) (h4 : fs.size = 4) (hint : intFields P fs = true)
    (hv : Value.okWide P w r b0 t v) (h : DataW.Trod enc P w 0 (fun _ => true) true t v d p) :
    ∃ A n c l, v = .slice A n c ∧ n ≤ c ∧ c ≤ maxLen ∧ Rects w w.heap.size A n l := by
  rcases read_structs ht he hone hC hint hv h with rfl | ⟨a, n, c, rfl, hn, hc, hcell⟩
  · exact ⟨none, 0, 0, [], rfl, Nat.le_refl _, Nat.zero_le _, Rd.nil, fun x hx => by simp at hx, by omega⟩
  · rw [h4] at hcell
    obtain ⟨l, hl, hf⟩ := list_of n (fun i (p : Rc) => w.cell? (a.add (i * 4 + 0)) = some (.int .i64 p.x) ∧ w.cell? (a.add (i * 4 + 1)) = some (.int .i64 p.y) ∧ w.cell? (a.add (i * 4 + 2)) = some (.int .i64 p.w) ∧ w.cell? (a.add (i * 4 + 3)) = some (.int .i64 p.h) ∧ p.b) (fun i hi => by
      obtain ⟨x, hx, bx⟩ := hcell i (by omega) 0 (by omega)
      obtain ⟨y, hy, by'⟩ := hcell i (by omega) 1 (by omega)
      obtain ⟨z, hz, bz⟩ := hcell i (by omega) 2 (by omega)
      obtain ⟨q, hq, bq⟩ := hcell i (by omega) 3 (by omega)
      exact ⟨⟨x, y, z, q⟩, hx, hy, hz, hq, bx, by', bz, bq⟩)
    refine ⟨some a, n, c, l, rfl, hn, hc, ⟨by rw [cellsR_length, hl], fun h0 => ⟨a, rfl, ?_, fun j u hu => ?_⟩⟩, fun p hp => ?_, by unfold maxLen at hc; omega⟩
    · obtain ⟨x, hx, _⟩ := hcell 0 (by omega) 0 (by omega)
      exact World.block_lt_of_cell? w _ hx
    · have hj : j < n * 4 := by
        have := (List.getElem?_eq_some_iff.1 hu).1
        rw [cellsR_length] at this; omega
      have e1 : j = j / 4 * 4 + j % 4 := by omega
      rw [e1] at hu ⊢
      rw [cellsR, flat_get cells4 4 (fun _ => rfl) l _ _ (by omega)] at hu
      have hx : l[j / 4]? = some (l[j / 4]'(by omega)) := List.getElem?_eq_getElem (by omega)
      rw [hx] at hu
      obtain ⟨f1, f2, f3, f4, _⟩ := hf _ _ hx
      rcases (show j % 4 = 0 ∨ j % 4 = 1 ∨ j % 4 = 2 ∨ j % 4 = 3 by omega) with h | h | h | h <;> rw [h] at hu ⊢ <;> simp [cells4] at hu <;> subst hu
      · exact f1
      · exact f2
      · exact f3
      · exact f4
    · obtain ⟨i, hi, he⟩ := List.getElem_of_mem hp
      exact (hf i p (by rw [List.getElem?_eq_getElem hi, he])).2.2.2.2

theorem read_int {r : Reach} {b0 : Nat} {t : TypeId} {v : Value} {d : DataW H} {p : List MemPlace} (ht : P.underlying t = some (.int .i64)) (hv : Value.okWide P w r b0 t v) (h : DataW.Trod enc P w 0 (fun _ => true) true t v d p) :
    ∃ x : Int, v = .int .i64 x ∧ -9223372036854775808 ≤ x ∧ x ≤ 9223372036854775807 := by
  obtain ⟨x, rfl, _, _, wx⟩ := open_int ht hv h
  exact ⟨x, rfl, bounds_i64 wx⟩
/-- A struct of ints by value. -/
theorem read_agg {r : Reach} {b0 : Nat} {t : TypeId} {fs : Array Field} {v : Value} {d : DataW H} {p : List MemPlace} (ht : P.underlying t = some (.struct fs))
    (hone : oneCellFields P fs = true) (hC : P.cellsOf t = fs.size) (hint : intFields P fs = true) (hv : Value.okWide P w r b0 t v) (h : DataW.Trod enc P w 0 (fun _ => true) true t v d p) :
    ∃ cs : Array Value, v = .agg cs ∧ cs.size = fs.size ∧ ∀ j, j < fs.size → ∃ x : Int, cs[j]? = some (.int .i64 x) ∧ -9223372036854775808 ≤ x ∧ x ≤ 9223372036854775807 := by
  obtain ⟨cs, rfl, hsz⟩ := okWide_struct ht hv
  obtain ⟨fuel, hf⟩ := h
  rw [hC] at hsz
  refine ⟨cs, rfl, hsz, fun j hj => ?_⟩
  obtain ⟨ys, n', hn', hy, hlen, hyl, hfd⟩ := DataW.trod_struct ht hf
  have hfj : fs[j]? = some (fs[j]) := Array.getElem?_eq_getElem hj
  obtain ⟨ho, hk⟩ := hone_of hone j _ hfj
  have h1 := hfd j _ hfj
  rw [ho, hk] at h1
  have hcl : (Value.agg cs).cells.size = cs.size := by simp [Value.cells]
  have hlt : j < (Value.agg cs).cells.toList.length := by simp [Value.cells]; omega
  have hone' : ((Value.agg cs).cells.toList.drop j).take 1 = [(Value.agg cs).cells.toList[j]'hlt] := by
    rw [List.drop_eq_getElem_cons hlt]
    rfl
  rw [hone'] at h1
  have hys : ys[j]? = some (ys[j]'(by omega)) := List.getElem?_eq_getElem (by omega)
  obtain ⟨x, e1, _, e3⟩ := DataW.trod_int (intFields_get hint hfj) (h1.trans hys)
  injection e1 with e1
  refine ⟨x, ?_, bounds_i64 e3⟩
  rw [← e1, Array.getElem?_eq_getElem (by omega)]
  simp [Value.cells]
theorem read_v2 {r : Reach} {b0 : Nat} {t : TypeId} {fs : Array Field} {v : Value} {d : DataW H} {p : List MemPlace} (ht : P.underlying t = some (.struct fs))
    (hone : oneCellFields P fs = true) (hC : P.cellsOf t = fs.size) (h2 : fs.size = 2) (hint : intFields P fs = true) (hv : Value.okWide P w r b0 t v) (h : DataW.Trod enc P w 0 (fun _ => true) true t v d p) :
    ∃ a : Pt, v = ptV a ∧ a.b := by
  obtain ⟨cs, rfl, hs, hj⟩ := read_agg ht hone hC hint hv h
  rw [h2] at hs hj
  obtain ⟨x, hx, bx⟩ := hj 0 (by omega)
  obtain ⟨y, hy, by'⟩ := hj 1 (by omega)
  refine ⟨⟨x, y⟩, ?_, bx, by'⟩
  obtain ⟨l⟩ := cs
  match l, hs with
  | [c0, c1], _ =>
    simp at hx hy
    simp [ptV, hx, hy]
theorem read_rect {r : Reach} {b0 : Nat} {t : TypeId} {fs : Array Field} {v : Value} {d : DataW H} {p : List MemPlace} (ht : P.underlying t = some (.struct fs))
    (hone : oneCellFields P fs = true) (hC : P.cellsOf t = fs.size) (h4 : fs.size = 4) (hint : intFields P fs = true) (hv : Value.okWide P w r b0 t v) (h : DataW.Trod enc P w 0 (fun _ => true) true t v d p) :
    ∃ a : Rc, v = rcV a ∧ a.b := by
  obtain ⟨cs, rfl, hs, hj⟩ := read_agg ht hone hC hint hv h
  rw [h4] at hs hj
  obtain ⟨x, hx, bx⟩ := hj 0 (by omega)
  obtain ⟨y, hy, by'⟩ := hj 1 (by omega)
  obtain ⟨z, hz, bz⟩ := hj 2 (by omega)
  obtain ⟨q, hq, bq⟩ := hj 3 (by omega)
  refine ⟨⟨x, y, z, q⟩, ?_, bx, by', bz, bq⟩
  obtain ⟨l⟩ := cs
  match l, hs with
  | [c0, c1, c2, c3], _ =>
    simp at hx hy hz hq
    simp [rcV, hx, hy, hz, hq]
end
end Go.Proofs.Ytfkkppagbhllgaa
