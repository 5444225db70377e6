/-
  THE WALK OF limewashref29.Pack.
-/
import Derived.Test.YtfkkppagbhllgaaTgaRefA
set_option linter.unusedVariables false
set_option linter.unusedSimpArgs false
set_option maxRecDepth 100000
namespace Go.Proofs.Ytfkkppagbhllgaa
open Go.RowKit

set_option maxHeartbeats 3200000 in
theorem packref_3 (z : Nat) (s : List UInt8) (w : World) (hz : z = 3 ∨ z = 4) (hb3 : ((z : Int) != 3) = false) (hl : s.length ≤ 1000000) (hm : s.length % z = 0) :
    Calls Try.prog 17 #[.string ⟨s.toArray⟩, .int .i64 (z : Int)] w fun e w' => e = .returned (.tuple #[.string ⟨(packT z s).toArray⟩, .int .i64 0]) ∧ Below w.heap.size w w' := by
  have KC := Lib.hid (fun i k W hi hk => colour_any z s i k W hz hl hi hk)
  have hmz := many_mod hm
  have hmz' : s.length = manyT z s * z := hmz
  have hmany : manyT z s ≤ 1000000 := Nat.le_trans (Nat.div_le_self _ _) hl
  have HPL : Hid ((packT z s).length ≤ 3000000) := Lib.hid (by
    have := pack_len (z := z) (s := s) (by omega) hmz'
    omega)
  have HCL : Hid (∀ i, i < manyT z s → (colT z s i).length = z) := Lib.hid fun i hi => colT_len hmz' hi
  have tm : (s.length : Int).tmod (z : Int) = 0 := by rw [Int.tmod_eq_emod_of_nonneg (by omega)]; omega
  have td : (s.length : Int).tdiv (z : Int) = ((manyT z s : Nat) : Int) := by rw [Int.tdiv_eq_ediv_of_nonneg (by omega)]; rfl
  have z0 : (z : Int) ≠ 0 := by omega
  have z9 : ¬ (z = 0) := by omega
  obtain ⟨M, hM⟩ : ∃ M, M = manyT z s := ⟨_, rfl⟩
  rw [← hM] at td
  have HM := Lib.hid hM
  have hM9 : M ≤ 1000000 := by omega
  have wm : IntKind.i64.wrap ((M : Nat) : Int) = (M : Int) := by rw [IntKind.wrap_i64]; omega
  have FIN : Hid (∀ W, Below w.heap.size w W → (fun e w' => e = Ending.returned (.tuple #[.string ⟨(packT z s).toArray⟩, .int .i64 0]) ∧ Below w.heap.size w w') (.returned (.tuple #[.string ⟨(packT z s).toArray⟩, .int .i64 0])) W) := Lib.hid fun W h => ⟨rfl, h⟩
  have HSZ := Lib.hid hmz'
  have HL9 := Lib.hid hl
  have HZ := Lib.hid hz
  clear hm hmz hmz' hmany hM hl hz
  · go_enter Try.func17, Try.ntmps17
    go_wp2_with fail
    go_loopw [7, 8] (fun v i wr => ∃ (f : Nat) (acc : List UInt8), f ≤ M ∧ i = .int .i64 (f : Int) ∧ v = .string ⟨acc.toArray⟩ ∧ Hid (PkSt z s f acc) ∧ Hid (Below w.heap.size w wr)) (fun _ i _ => M - (intOf i).toNat)
    case atStart => exact ⟨0, [], Nat.zero_le _, rfl, rfl, Lib.hid (PkSt.start z s), Lib.hid (Below.refl _ _)⟩
    case round =>
      obtain ⟨f, acc, hf, rfl, rfl, hst, hbw⟩ := hrel
      by_cases hlt : f < M
      · have t0 : decide ((f : Int) < (M : Int)) = true := decide_eq_true (by omega)
        go_wp2_with fail
        obtain ⟨wo, rfl⟩ : ∃ wo : World, wo = wr := ⟨_, rfl⟩
        go_loopw [9] (fun r wr => ∃ q : Nat, r = .int .i64 (q : Int) ∧ Hid (RunSt z s f q) ∧ wr = wo) (fun r _ => 129 - (intOf r).toNat)
        case atStart => exact ⟨1, rfl, Lib.hid (RunSt.start (by rw [← HM.out]; exact hlt)), rfl⟩
        case round =>
          obtain ⟨q, rfl, hrs, rfl⟩ := hrel
          have q3 := hrs.out.r3
          have q1 := hrs.out.r1
          have w1 : IntKind.i64.wrap ((f : Int) + (q : Int)) = (f : Int) + (q : Int) := by rw [IntKind.wrap_i64]; omega
          by_cases h1 : f + q < M
          · have t1 : decide ((f : Int) + (q : Int) < (M : Int)) = true := decide_eq_true (by omega)
            by_cases h2 : q < 128
            · have t2 : decide ((q : Int) < 128) = true := decide_eq_true (by omega)
              go_wp2_with fail
              refine (KC.out (f + q) _ _ (by rw [← HM.out]; exact h1) (by simp)).mono ?_
              rintro e wx ⟨rfl, hwx⟩; obtain rfl := hwx.symm
              go_wp2_with fail
              refine (KC.out f _ _ (by rw [← HM.out]; exact hlt) rfl).mono ?_
              rintro e wx ⟨rfl, hwx⟩; obtain rfl := hwx.symm
              by_cases h3 : colT z s (f + q) = colT z s f
              · have t3 : (colT z s (f + q) == colT z s f) = true := by rw [h3]; simp
                have HNX := Lib.hid (hrs.out.step (by rw [← HM.out]; exact h1) h2 h3)
                have w2 : IntKind.i64.wrap ((q : Int) + 1) = (q : Int) + 1 := by rw [IntKind.wrap_i64]; omega
                clear h3
                go_wp2_with fail
                go_roundw
                case rel => exact ⟨q + 1, by go_num, HNX, by first | rfl | trivial⟩
                case measure => simp only [intOf]; omega
              · have t3 : (colT z s (f + q) == colT z s f) = false := by rw [beq_eq_false_iff_ne]; exact h3
                have HSTOP := Lib.hid (hrs.out.stop (fun h => h3 h.2.2))
                clear h3
                by_cases hq : 1 < q
                · skip
                  obtain ⟨hsT, hpd⟩ := HSTOP.out.2 hq
                  have hpc := piece_run hsT hpd q1
                  have HNX := hst.out.step (by rw [← HM.out]; exact hlt)
                  rw [hpc, hpd] at HNX
                  have HNX := Lib.hid HNX
                  obtain ⟨c, hc⟩ : ∃ c, c = UInt8.ofNat (127 + q) := ⟨_, rfl⟩
                  have hcx : 127 + (q : Int) = (c.toNat : Int) := by rw [hc, u8_of _ (by omega)]; omega
                  rw [← hc] at HNX
                  have HCX := Lib.hid hcx
                  have hcv : (convert 22 9 (.slice (some ⟨wr.heap.size, 0, none⟩) 1 1)).run Try.prog (wr.alloc (.cells #[.int .u8 (127 + (q : Int))] 5)).drew = .ok (.string ⟨#[c]⟩) (wr.alloc (.cells #[.int .u8 (127 + (q : Int))] 5)).drew := byte_text wr.drew c (127 + (q : Int)) hcx wr.heap.size rfl
                  have hal := hst.out.le
                  have hpl := HPL.out
                  have hcl := HCL.out f (by rw [← HM.out]; exact hlt)
                  obtain ⟨acc1, hacc1⟩ : ∃ l, l = acc ++ [c] := ⟨_, rfl⟩
                  have hcat1 : ∀ W, (Op.stringOp .add ⟨acc.toArray⟩ ⟨#[c]⟩).run Try.prog W = .ok (.string ⟨acc1.toArray⟩) W := fun W => by rw [hacc1]; exact run_cat acc [c] (by simp; omega) W
                  have hl1 : acc1.length ≤ 3000001 := by rw [hacc1]; simp; omega
                  obtain ⟨acc2, hacc2⟩ : ∃ l, l = acc1 ++ colT z s f := ⟨_, rfl⟩
                  have hcat2 : ∀ W, (Op.stringOp .add ⟨acc1.toArray⟩ ⟨(colT z s f).toArray⟩).run Try.prog W = .ok (.string ⟨acc2.toArray⟩) W := fun W => by rw [hacc2]; exact run_cat acc1 (colT z s f) (by have := HZ.out; omega) W
                  have HAC : Hid (acc2 = acc ++ c :: colT z s f) := Lib.hid (by rw [hacc2, hacc1]; simp)
                  rw [← HAC.out] at HNX
                  have w127 : IntKind.i64.wrap (127 + (q : Int)) = 127 + (q : Int) := by rw [IntKind.wrap_i64]; omega
                  have u127 : IntKind.u8.wrap (127 + (q : Int)) = 127 + (q : Int) := by rw [IntKind.wrap_u8]; omega
                  have t5 : decide ((1 : Int) < (q : Int)) = true := decide_eq_true (by omega)
                  have hbn := Lib.hid (hbw.out.drew.alloc (by exact hbw.out.size) (.cells #[.int .u8 (127 + (q : Int))] 5))
                  have KC1 := Lib.hid (fun W => KC.out f (f : Int) W (by rw [← HM.out]; exact hlt) rfl)
                  have hq4 := HNX.out.1
                  rw [← HM.out] at hq4
                  clear hc hcx hal hpl hcl hacc1 hacc2 hl1 hsT hpd hpc
                  go_wp2_with fail
                  go_region_with (go_at_call 41; refine (KC1.out _).mono ?_; rintro e wx ⟨rfl, rfl⟩)
                  all_goals
                    go_wp2_with fail
                    go_roundw
                    case rel => exact ⟨f + q, acc2, by omega, by go_num, rfl, HNX, hbn⟩
                    case measure => simp only [intOf]; omega
                · have HSF := Lib.hid (HSTOP.out.1 (by omega))
                  have t5 : decide ((1 : Int) < (q : Int)) = false := decide_eq_false (by omega)
                  clear HSTOP
                  go_wp2_with fail
                  obtain ⟨wo, rfl⟩ : ∃ wo : World, wo = wr := ⟨_, rfl⟩
                  go_loopw [10] (fun r wr => ∃ p : Nat, r = .int .i64 (p : Int) ∧ Hid (LitSt z s f p) ∧ wr = wo) (fun r _ => 129 - (intOf r).toNat)
                  case atStart => exact ⟨1, rfl, Lib.hid (LitSt.start (by rw [← HM.out]; exact hlt) HSF.out), rfl⟩
                  case round =>
                    obtain ⟨p, rfl, hls, rfl⟩ := hrel
                    have p3 := hls.out.r3
                    have p1 := hls.out.r1
                    have x1 : IntKind.i64.wrap ((f : Int) + (p : Int)) = (f : Int) + (p : Int) := by rw [IntKind.wrap_i64]; omega
                    by_cases g1 : f + p < M
                    · have s1 : decide ((f : Int) + (p : Int) < (M : Int)) = true := decide_eq_true (by omega)
                      by_cases g2 : p < 128
                      · have s2 : decide ((p : Int) < 128) = true := decide_eq_true (by omega)
                        have x2 : IntKind.i64.wrap ((f : Int) + (p : Int) + 1) = (f : Int) + (p : Int) + 1 := by rw [IntKind.wrap_i64]; omega
                        have x3 : IntKind.i64.wrap ((p : Int) + 1) = (p : Int) + 1 := by rw [IntKind.wrap_i64]; omega
                        by_cases g3 : f + p + 1 < M
                        · have s3 : decide ((f : Int) + (p : Int) + 1 < (M : Int)) = true := decide_eq_true (by omega)
                          go_wp2_with fail
                          refine (KC.out (f + p) _ _ (by rw [← HM.out]; exact g1) (by simp)).mono ?_
                          rintro e wx ⟨rfl, hwx⟩; obtain rfl := hwx.symm
                          go_wp2_with fail
                          refine (KC.out (f + p + 1) _ _ (by rw [← HM.out]; exact g3) (by simp)).mono ?_
                          rintro e wx ⟨rfl, hwx⟩; obtain rfl := hwx.symm
                          by_cases g4 : colT z s (f + p) = colT z s (f + p + 1)
                          · have s4 : (colT z s (f + p) == colT z s (f + p + 1)) = true := by rw [beq_iff_eq]; exact g4
                            have HS2 : Hid (¬ (f + p < manyT z s ∧ p < 128 ∧ sameT z s (f + p) = false)) := Lib.hid (fun h => by
                              have h5 := h.2.2
                              unfold sameT at h5
                              rw [g4, ← HM.out, decide_eq_true g3] at h5
                              simp at h5)
                            clear g4
                            have hpd := LitSt.stop hls.out HS2.out
                            have hpc := piece_lit HSF.out hpd p1
                            have HNX := hst.out.step (by rw [← HM.out]; exact hlt)
                            rw [hpc, hpd] at HNX
                            have HNX := Lib.hid HNX
                            obtain ⟨c, hc⟩ : ∃ c, c = UInt8.ofNat (p - 1) := ⟨_, rfl⟩
                            have hcx : (p : Int) - 1 = (c.toNat : Int) := by rw [hc, u8_of _ (by omega)]; omega
                            rw [← hc] at HNX
                            have HCX := Lib.hid hcx
                            have hcv : (convert 22 9 (.slice (some ⟨wr.heap.size, 0, none⟩) 1 1)).run Try.prog (wr.alloc (.cells #[.int .u8 ((p : Int) - 1)] 5)).drew = .ok (.string ⟨#[c]⟩) (wr.alloc (.cells #[.int .u8 ((p : Int) - 1)] 5)).drew := byte_text wr.drew c ((p : Int) - 1) hcx wr.heap.size rfl
                            have hal := hst.out.le
                            have hpl := HPL.out
                            have hle : f * z + p * z ≤ s.length := by
                              have h5 : (f + p) * z ≤ manyT z s * z := Nat.mul_le_mul_right _ hls.out.r2
                              rw [HSZ.out, ← Nat.add_mul]; exact h5
                            have hsl9 := HL9.out
                            have e1 : (z : Int) * (f : Int) = ((f * z : Nat) : Int) := by rw [Int.mul_comm]; simp
                            have e2 : (z : Int) * ((f : Int) + (p : Int)) = ((f * z + p * z : Nat) : Int) := by rw [Int.mul_comm, Int.add_mul]; simp
                            have HS : ∀ W, (Instr.slice 9 (.string ⟨s.toArray⟩) (some (.int .i64 ((f * z : Nat) : Int))) (some (.int .i64 ((f * z + p * z : Nat) : Int))) none).run Try.prog W = .ok (.string ⟨(spanT z s f p).toArray⟩) W := fun W => by
                              rw [run_sl 9 s _ _ (f * z) (f * z + p * z) rfl rfl (Nat.le_add_right _ _) hle Try.underlying9 W]
                              unfold spanT
                              rw [show f * z + p * z - f * z = p * z by omega]
                            have hln : (spanT z s f p).length ≤ 1000000 := by
                              unfold spanT
                              simp
                              omega
                            have hle0 : f * z ≤ s.length := Nat.le_trans (Nat.le_add_right _ _) hle
                            generalize f * z + p * z = a1 at *
                            generalize f * z = a0 at *
                            have wa0 : IntKind.i64.wrap (a0 : Int) = (a0 : Int) := by rw [IntKind.wrap_i64]; omega
                            have wa1 : IntKind.i64.wrap (a1 : Int) = (a1 : Int) := by rw [IntKind.wrap_i64]; omega
                            obtain ⟨acc1, hacc1⟩ : ∃ l, l = acc ++ [c] := ⟨_, rfl⟩
                            have hcat1 : ∀ W, (Op.stringOp .add ⟨acc.toArray⟩ ⟨#[c]⟩).run Try.prog W = .ok (.string ⟨acc1.toArray⟩) W := fun W => by rw [hacc1]; exact run_cat acc [c] (by simp; omega) W
                            have hl1 : acc1.length ≤ 3000001 := by rw [hacc1]; simp; omega
                            obtain ⟨acc2, hacc2⟩ : ∃ l, l = acc1 ++ spanT z s f p := ⟨_, rfl⟩
                            have hcat2 : ∀ W, (Op.stringOp .add ⟨acc1.toArray⟩ ⟨(spanT z s f p).toArray⟩).run Try.prog W = .ok (.string ⟨acc2.toArray⟩) W := fun W => by rw [hacc2]; exact run_cat acc1 (spanT z s f p) (by omega) W
                            have HAC : Hid (acc2 = acc ++ c :: spanT z s f p) := Lib.hid (by rw [hacc2, hacc1]; simp)
                            rw [← HAC.out] at HNX
                            have wsub : IntKind.i64.wrap ((p : Int) - 1) = (p : Int) - 1 := by rw [IntKind.wrap_i64]; omega
                            have usub : IntKind.u8.wrap ((p : Int) - 1) = (p : Int) - 1 := by rw [IntKind.wrap_u8]; omega
                            have hbn := Lib.hid (hbw.out.drew.alloc (by exact hbw.out.size) (.cells #[.int .u8 ((p : Int) - 1)] 5))
                            have hq4 := HNX.out.1
                            rw [← HM.out] at hq4
                            clear hc hcx hal hpl hle hle0 hsl9 hln hacc1 hacc2 hl1 hpd hpc
                            go_wp2_with fail
                            go_region
                            all_goals
                              go_wp2_with fail
                              go_roundw
                              case rel => exact ⟨f + p, acc2, by omega, by go_num, rfl, HNX, hbn⟩
                              case measure => simp only [intOf]; omega
                          · have s4 : (colT z s (f + p) == colT z s (f + p + 1)) = false := by rw [beq_eq_false_iff_ne]; exact g4
                            have HNX := Lib.hid (hls.out.step (by rw [← HM.out]; exact g1) g2 (by unfold sameT; rw [s4, Bool.and_false]))
                            clear g4
                            go_wp2_with fail
                            go_roundw
                            case rel => exact ⟨p + 1, by go_num, HNX, by first | rfl | trivial⟩
                            case measure => simp only [intOf]; omega
                        · have s3 : decide ((f : Int) + (p : Int) + 1 < (M : Int)) = false := decide_eq_false (by omega)
                          have HNX := Lib.hid (hls.out.step (by rw [← HM.out]; exact g1) g2 (by unfold sameT; rw [← HM.out, decide_eq_false g3, Bool.false_and]))
                          go_wp2_with fail
                          go_roundw
                          case rel => exact ⟨p + 1, by go_num, HNX, by first | rfl | trivial⟩
                          case measure => simp only [intOf]; omega
                      · have s2 : decide ((p : Int) < 128) = false := decide_eq_false (by omega)
                        have HS2 : Hid (¬ (f + p < manyT z s ∧ p < 128 ∧ sameT z s (f + p) = false)) := Lib.hid (fun h => g2 h.2.1)
                        have hpd := LitSt.stop hls.out HS2.out
                        have hpc := piece_lit HSF.out hpd p1
                        have HNX := hst.out.step (by rw [← HM.out]; exact hlt)
                        rw [hpc, hpd] at HNX
                        have HNX := Lib.hid HNX
                        obtain ⟨c, hc⟩ : ∃ c, c = UInt8.ofNat (p - 1) := ⟨_, rfl⟩
                        have hcx : (p : Int) - 1 = (c.toNat : Int) := by rw [hc, u8_of _ (by omega)]; omega
                        rw [← hc] at HNX
                        have HCX := Lib.hid hcx
                        have hcv : (convert 22 9 (.slice (some ⟨wr.heap.size, 0, none⟩) 1 1)).run Try.prog (wr.alloc (.cells #[.int .u8 ((p : Int) - 1)] 5)).drew = .ok (.string ⟨#[c]⟩) (wr.alloc (.cells #[.int .u8 ((p : Int) - 1)] 5)).drew := byte_text wr.drew c ((p : Int) - 1) hcx wr.heap.size rfl
                        have hal := hst.out.le
                        have hpl := HPL.out
                        have hle : f * z + p * z ≤ s.length := by
                          have h5 : (f + p) * z ≤ manyT z s * z := Nat.mul_le_mul_right _ hls.out.r2
                          rw [HSZ.out, ← Nat.add_mul]; exact h5
                        have hsl9 := HL9.out
                        have e1 : (z : Int) * (f : Int) = ((f * z : Nat) : Int) := by rw [Int.mul_comm]; simp
                        have e2 : (z : Int) * ((f : Int) + (p : Int)) = ((f * z + p * z : Nat) : Int) := by rw [Int.mul_comm, Int.add_mul]; simp
                        have HS : ∀ W, (Instr.slice 9 (.string ⟨s.toArray⟩) (some (.int .i64 ((f * z : Nat) : Int))) (some (.int .i64 ((f * z + p * z : Nat) : Int))) none).run Try.prog W = .ok (.string ⟨(spanT z s f p).toArray⟩) W := fun W => by
                          rw [run_sl 9 s _ _ (f * z) (f * z + p * z) rfl rfl (Nat.le_add_right _ _) hle Try.underlying9 W]
                          unfold spanT
                          rw [show f * z + p * z - f * z = p * z by omega]
                        have hln : (spanT z s f p).length ≤ 1000000 := by
                          unfold spanT
                          simp
                          omega
                        have hle0 : f * z ≤ s.length := Nat.le_trans (Nat.le_add_right _ _) hle
                        generalize f * z + p * z = a1 at *
                        generalize f * z = a0 at *
                        have wa0 : IntKind.i64.wrap (a0 : Int) = (a0 : Int) := by rw [IntKind.wrap_i64]; omega
                        have wa1 : IntKind.i64.wrap (a1 : Int) = (a1 : Int) := by rw [IntKind.wrap_i64]; omega
                        obtain ⟨acc1, hacc1⟩ : ∃ l, l = acc ++ [c] := ⟨_, rfl⟩
                        have hcat1 : ∀ W, (Op.stringOp .add ⟨acc.toArray⟩ ⟨#[c]⟩).run Try.prog W = .ok (.string ⟨acc1.toArray⟩) W := fun W => by rw [hacc1]; exact run_cat acc [c] (by simp; omega) W
                        have hl1 : acc1.length ≤ 3000001 := by rw [hacc1]; simp; omega
                        obtain ⟨acc2, hacc2⟩ : ∃ l, l = acc1 ++ spanT z s f p := ⟨_, rfl⟩
                        have hcat2 : ∀ W, (Op.stringOp .add ⟨acc1.toArray⟩ ⟨(spanT z s f p).toArray⟩).run Try.prog W = .ok (.string ⟨acc2.toArray⟩) W := fun W => by rw [hacc2]; exact run_cat acc1 (spanT z s f p) (by omega) W
                        have HAC : Hid (acc2 = acc ++ c :: spanT z s f p) := Lib.hid (by rw [hacc2, hacc1]; simp)
                        rw [← HAC.out] at HNX
                        have wsub : IntKind.i64.wrap ((p : Int) - 1) = (p : Int) - 1 := by rw [IntKind.wrap_i64]; omega
                        have usub : IntKind.u8.wrap ((p : Int) - 1) = (p : Int) - 1 := by rw [IntKind.wrap_u8]; omega
                        have hbn := Lib.hid (hbw.out.drew.alloc (by exact hbw.out.size) (.cells #[.int .u8 ((p : Int) - 1)] 5))
                        have hq4 := HNX.out.1
                        rw [← HM.out] at hq4
                        clear hc hcx hal hpl hle hle0 hsl9 hln hacc1 hacc2 hl1 hpd hpc
                        go_wp2_with fail
                        go_region
                        all_goals
                          go_wp2_with fail
                          go_roundw
                          case rel => exact ⟨f + p, acc2, by omega, by go_num, rfl, HNX, hbn⟩
                          case measure => simp only [intOf]; omega
                    · have s1 : decide ((f : Int) + (p : Int) < (M : Int)) = false := decide_eq_false (by omega)
                      have HS2 : Hid (¬ (f + p < manyT z s ∧ p < 128 ∧ sameT z s (f + p) = false)) := Lib.hid (fun h => g1 (by rw [HM.out]; exact h.1))
                      have hpd := LitSt.stop hls.out HS2.out
                      have hpc := piece_lit HSF.out hpd p1
                      have HNX := hst.out.step (by rw [← HM.out]; exact hlt)
                      rw [hpc, hpd] at HNX
                      have HNX := Lib.hid HNX
                      obtain ⟨c, hc⟩ : ∃ c, c = UInt8.ofNat (p - 1) := ⟨_, rfl⟩
                      have hcx : (p : Int) - 1 = (c.toNat : Int) := by rw [hc, u8_of _ (by omega)]; omega
                      rw [← hc] at HNX
                      have HCX := Lib.hid hcx
                      have hcv : (convert 22 9 (.slice (some ⟨wr.heap.size, 0, none⟩) 1 1)).run Try.prog (wr.alloc (.cells #[.int .u8 ((p : Int) - 1)] 5)).drew = .ok (.string ⟨#[c]⟩) (wr.alloc (.cells #[.int .u8 ((p : Int) - 1)] 5)).drew := byte_text wr.drew c ((p : Int) - 1) hcx wr.heap.size rfl
                      have hal := hst.out.le
                      have hpl := HPL.out
                      have hle : f * z + p * z ≤ s.length := by
                        have h5 : (f + p) * z ≤ manyT z s * z := Nat.mul_le_mul_right _ hls.out.r2
                        rw [HSZ.out, ← Nat.add_mul]; exact h5
                      have hsl9 := HL9.out
                      have e1 : (z : Int) * (f : Int) = ((f * z : Nat) : Int) := by rw [Int.mul_comm]; simp
                      have e2 : (z : Int) * ((f : Int) + (p : Int)) = ((f * z + p * z : Nat) : Int) := by rw [Int.mul_comm, Int.add_mul]; simp
                      have HS : ∀ W, (Instr.slice 9 (.string ⟨s.toArray⟩) (some (.int .i64 ((f * z : Nat) : Int))) (some (.int .i64 ((f * z + p * z : Nat) : Int))) none).run Try.prog W = .ok (.string ⟨(spanT z s f p).toArray⟩) W := fun W => by
                        rw [run_sl 9 s _ _ (f * z) (f * z + p * z) rfl rfl (Nat.le_add_right _ _) hle Try.underlying9 W]
                        unfold spanT
                        rw [show f * z + p * z - f * z = p * z by omega]
                      have hln : (spanT z s f p).length ≤ 1000000 := by
                        unfold spanT
                        simp
                        omega
                      have hle0 : f * z ≤ s.length := Nat.le_trans (Nat.le_add_right _ _) hle
                      generalize f * z + p * z = a1 at *
                      generalize f * z = a0 at *
                      have wa0 : IntKind.i64.wrap (a0 : Int) = (a0 : Int) := by rw [IntKind.wrap_i64]; omega
                      have wa1 : IntKind.i64.wrap (a1 : Int) = (a1 : Int) := by rw [IntKind.wrap_i64]; omega
                      obtain ⟨acc1, hacc1⟩ : ∃ l, l = acc ++ [c] := ⟨_, rfl⟩
                      have hcat1 : ∀ W, (Op.stringOp .add ⟨acc.toArray⟩ ⟨#[c]⟩).run Try.prog W = .ok (.string ⟨acc1.toArray⟩) W := fun W => by rw [hacc1]; exact run_cat acc [c] (by simp; omega) W
                      have hl1 : acc1.length ≤ 3000001 := by rw [hacc1]; simp; omega
                      obtain ⟨acc2, hacc2⟩ : ∃ l, l = acc1 ++ spanT z s f p := ⟨_, rfl⟩
                      have hcat2 : ∀ W, (Op.stringOp .add ⟨acc1.toArray⟩ ⟨(spanT z s f p).toArray⟩).run Try.prog W = .ok (.string ⟨acc2.toArray⟩) W := fun W => by rw [hacc2]; exact run_cat acc1 (spanT z s f p) (by omega) W
                      have HAC : Hid (acc2 = acc ++ c :: spanT z s f p) := Lib.hid (by rw [hacc2, hacc1]; simp)
                      rw [← HAC.out] at HNX
                      have wsub : IntKind.i64.wrap ((p : Int) - 1) = (p : Int) - 1 := by rw [IntKind.wrap_i64]; omega
                      have usub : IntKind.u8.wrap ((p : Int) - 1) = (p : Int) - 1 := by rw [IntKind.wrap_u8]; omega
                      have hbn := Lib.hid (hbw.out.drew.alloc (by exact hbw.out.size) (.cells #[.int .u8 ((p : Int) - 1)] 5))
                      have hq4 := HNX.out.1
                      rw [← HM.out] at hq4
                      clear hc hcx hal hpl hle hle0 hsl9 hln hacc1 hacc2 hl1 hpd hpc
                      go_wp2_with fail
                      go_region
                      all_goals
                        go_wp2_with fail
                        go_roundw
                        case rel => exact ⟨f + p, acc2, by omega, by go_num, rfl, HNX, hbn⟩
                        case measure => simp only [intOf]; omega
            · have t2 : decide ((q : Int) < 128) = false := decide_eq_false (by omega)
              have HSTOP := Lib.hid (hrs.out.stop (fun h => h2 h.2.1))
              by_cases hq : 1 < q
              · skip
                obtain ⟨hsT, hpd⟩ := HSTOP.out.2 hq
                have hpc := piece_run hsT hpd q1
                have HNX := hst.out.step (by rw [← HM.out]; exact hlt)
                rw [hpc, hpd] at HNX
                have HNX := Lib.hid HNX
                obtain ⟨c, hc⟩ : ∃ c, c = UInt8.ofNat (127 + q) := ⟨_, rfl⟩
                have hcx : 127 + (q : Int) = (c.toNat : Int) := by rw [hc, u8_of _ (by omega)]; omega
                rw [← hc] at HNX
                have HCX := Lib.hid hcx
                have hcv : (convert 22 9 (.slice (some ⟨wr.heap.size, 0, none⟩) 1 1)).run Try.prog (wr.alloc (.cells #[.int .u8 (127 + (q : Int))] 5)).drew = .ok (.string ⟨#[c]⟩) (wr.alloc (.cells #[.int .u8 (127 + (q : Int))] 5)).drew := byte_text wr.drew c (127 + (q : Int)) hcx wr.heap.size rfl
                have hal := hst.out.le
                have hpl := HPL.out
                have hcl := HCL.out f (by rw [← HM.out]; exact hlt)
                obtain ⟨acc1, hacc1⟩ : ∃ l, l = acc ++ [c] := ⟨_, rfl⟩
                have hcat1 : ∀ W, (Op.stringOp .add ⟨acc.toArray⟩ ⟨#[c]⟩).run Try.prog W = .ok (.string ⟨acc1.toArray⟩) W := fun W => by rw [hacc1]; exact run_cat acc [c] (by simp; omega) W
                have hl1 : acc1.length ≤ 3000001 := by rw [hacc1]; simp; omega
                obtain ⟨acc2, hacc2⟩ : ∃ l, l = acc1 ++ colT z s f := ⟨_, rfl⟩
                have hcat2 : ∀ W, (Op.stringOp .add ⟨acc1.toArray⟩ ⟨(colT z s f).toArray⟩).run Try.prog W = .ok (.string ⟨acc2.toArray⟩) W := fun W => by rw [hacc2]; exact run_cat acc1 (colT z s f) (by have := HZ.out; omega) W
                have HAC : Hid (acc2 = acc ++ c :: colT z s f) := Lib.hid (by rw [hacc2, hacc1]; simp)
                rw [← HAC.out] at HNX
                have w127 : IntKind.i64.wrap (127 + (q : Int)) = 127 + (q : Int) := by rw [IntKind.wrap_i64]; omega
                have u127 : IntKind.u8.wrap (127 + (q : Int)) = 127 + (q : Int) := by rw [IntKind.wrap_u8]; omega
                have t5 : decide ((1 : Int) < (q : Int)) = true := decide_eq_true (by omega)
                have hbn := Lib.hid (hbw.out.drew.alloc (by exact hbw.out.size) (.cells #[.int .u8 (127 + (q : Int))] 5))
                have KC1 := Lib.hid (fun W => KC.out f (f : Int) W (by rw [← HM.out]; exact hlt) rfl)
                have hq4 := HNX.out.1
                rw [← HM.out] at hq4
                clear hc hcx hal hpl hcl hacc1 hacc2 hl1 hsT hpd hpc
                go_wp2_with fail
                go_region_with (go_at_call 41; refine (KC1.out _).mono ?_; rintro e wx ⟨rfl, rfl⟩)
                all_goals
                  go_wp2_with fail
                  go_roundw
                  case rel => exact ⟨f + q, acc2, by omega, by go_num, rfl, HNX, hbn⟩
                  case measure => simp only [intOf]; omega
              · have HSF := Lib.hid (HSTOP.out.1 (by omega))
                have t5 : decide ((1 : Int) < (q : Int)) = false := decide_eq_false (by omega)
                clear HSTOP
                go_wp2_with fail
                obtain ⟨wo, rfl⟩ : ∃ wo : World, wo = wr := ⟨_, rfl⟩
                go_loopw [10] (fun r wr => ∃ p : Nat, r = .int .i64 (p : Int) ∧ Hid (LitSt z s f p) ∧ wr = wo) (fun r _ => 129 - (intOf r).toNat)
                case atStart => exact ⟨1, rfl, Lib.hid (LitSt.start (by rw [← HM.out]; exact hlt) HSF.out), rfl⟩
                case round =>
                  obtain ⟨p, rfl, hls, rfl⟩ := hrel
                  have p3 := hls.out.r3
                  have p1 := hls.out.r1
                  have x1 : IntKind.i64.wrap ((f : Int) + (p : Int)) = (f : Int) + (p : Int) := by rw [IntKind.wrap_i64]; omega
                  by_cases g1 : f + p < M
                  · have s1 : decide ((f : Int) + (p : Int) < (M : Int)) = true := decide_eq_true (by omega)
                    by_cases g2 : p < 128
                    · have s2 : decide ((p : Int) < 128) = true := decide_eq_true (by omega)
                      have x2 : IntKind.i64.wrap ((f : Int) + (p : Int) + 1) = (f : Int) + (p : Int) + 1 := by rw [IntKind.wrap_i64]; omega
                      have x3 : IntKind.i64.wrap ((p : Int) + 1) = (p : Int) + 1 := by rw [IntKind.wrap_i64]; omega
                      by_cases g3 : f + p + 1 < M
                      · have s3 : decide ((f : Int) + (p : Int) + 1 < (M : Int)) = true := decide_eq_true (by omega)
                        go_wp2_with fail
                        refine (KC.out (f + p) _ _ (by rw [← HM.out]; exact g1) (by simp)).mono ?_
                        rintro e wx ⟨rfl, hwx⟩; obtain rfl := hwx.symm
                        go_wp2_with fail
                        refine (KC.out (f + p + 1) _ _ (by rw [← HM.out]; exact g3) (by simp)).mono ?_
                        rintro e wx ⟨rfl, hwx⟩; obtain rfl := hwx.symm
                        by_cases g4 : colT z s (f + p) = colT z s (f + p + 1)
                        · have s4 : (colT z s (f + p) == colT z s (f + p + 1)) = true := by rw [beq_iff_eq]; exact g4
                          have HS2 : Hid (¬ (f + p < manyT z s ∧ p < 128 ∧ sameT z s (f + p) = false)) := Lib.hid (fun h => by
                            have h5 := h.2.2
                            unfold sameT at h5
                            rw [g4, ← HM.out, decide_eq_true g3] at h5
                            simp at h5)
                          clear g4
                          have hpd := LitSt.stop hls.out HS2.out
                          have hpc := piece_lit HSF.out hpd p1
                          have HNX := hst.out.step (by rw [← HM.out]; exact hlt)
                          rw [hpc, hpd] at HNX
                          have HNX := Lib.hid HNX
                          obtain ⟨c, hc⟩ : ∃ c, c = UInt8.ofNat (p - 1) := ⟨_, rfl⟩
                          have hcx : (p : Int) - 1 = (c.toNat : Int) := by rw [hc, u8_of _ (by omega)]; omega
                          rw [← hc] at HNX
                          have HCX := Lib.hid hcx
                          have hcv : (convert 22 9 (.slice (some ⟨wr.heap.size, 0, none⟩) 1 1)).run Try.prog (wr.alloc (.cells #[.int .u8 ((p : Int) - 1)] 5)).drew = .ok (.string ⟨#[c]⟩) (wr.alloc (.cells #[.int .u8 ((p : Int) - 1)] 5)).drew := byte_text wr.drew c ((p : Int) - 1) hcx wr.heap.size rfl
                          have hal := hst.out.le
                          have hpl := HPL.out
                          have hle : f * z + p * z ≤ s.length := by
                            have h5 : (f + p) * z ≤ manyT z s * z := Nat.mul_le_mul_right _ hls.out.r2
                            rw [HSZ.out, ← Nat.add_mul]; exact h5
                          have hsl9 := HL9.out
                          have e1 : (z : Int) * (f : Int) = ((f * z : Nat) : Int) := by rw [Int.mul_comm]; simp
                          have e2 : (z : Int) * ((f : Int) + (p : Int)) = ((f * z + p * z : Nat) : Int) := by rw [Int.mul_comm, Int.add_mul]; simp
                          have HS : ∀ W, (Instr.slice 9 (.string ⟨s.toArray⟩) (some (.int .i64 ((f * z : Nat) : Int))) (some (.int .i64 ((f * z + p * z : Nat) : Int))) none).run Try.prog W = .ok (.string ⟨(spanT z s f p).toArray⟩) W := fun W => by
                            rw [run_sl 9 s _ _ (f * z) (f * z + p * z) rfl rfl (Nat.le_add_right _ _) hle Try.underlying9 W]
                            unfold spanT
                            rw [show f * z + p * z - f * z = p * z by omega]
                          have hln : (spanT z s f p).length ≤ 1000000 := by
                            unfold spanT
                            simp
                            omega
                          have hle0 : f * z ≤ s.length := Nat.le_trans (Nat.le_add_right _ _) hle
                          generalize f * z + p * z = a1 at *
                          generalize f * z = a0 at *
                          have wa0 : IntKind.i64.wrap (a0 : Int) = (a0 : Int) := by rw [IntKind.wrap_i64]; omega
                          have wa1 : IntKind.i64.wrap (a1 : Int) = (a1 : Int) := by rw [IntKind.wrap_i64]; omega
                          obtain ⟨acc1, hacc1⟩ : ∃ l, l = acc ++ [c] := ⟨_, rfl⟩
                          have hcat1 : ∀ W, (Op.stringOp .add ⟨acc.toArray⟩ ⟨#[c]⟩).run Try.prog W = .ok (.string ⟨acc1.toArray⟩) W := fun W => by rw [hacc1]; exact run_cat acc [c] (by simp; omega) W
                          have hl1 : acc1.length ≤ 3000001 := by rw [hacc1]; simp; omega
                          obtain ⟨acc2, hacc2⟩ : ∃ l, l = acc1 ++ spanT z s f p := ⟨_, rfl⟩
                          have hcat2 : ∀ W, (Op.stringOp .add ⟨acc1.toArray⟩ ⟨(spanT z s f p).toArray⟩).run Try.prog W = .ok (.string ⟨acc2.toArray⟩) W := fun W => by rw [hacc2]; exact run_cat acc1 (spanT z s f p) (by omega) W
                          have HAC : Hid (acc2 = acc ++ c :: spanT z s f p) := Lib.hid (by rw [hacc2, hacc1]; simp)
                          rw [← HAC.out] at HNX
                          have wsub : IntKind.i64.wrap ((p : Int) - 1) = (p : Int) - 1 := by rw [IntKind.wrap_i64]; omega
                          have usub : IntKind.u8.wrap ((p : Int) - 1) = (p : Int) - 1 := by rw [IntKind.wrap_u8]; omega
                          have hbn := Lib.hid (hbw.out.drew.alloc (by exact hbw.out.size) (.cells #[.int .u8 ((p : Int) - 1)] 5))
                          have hq4 := HNX.out.1
                          rw [← HM.out] at hq4
                          clear hc hcx hal hpl hle hle0 hsl9 hln hacc1 hacc2 hl1 hpd hpc
                          go_wp2_with fail
                          go_region
                          all_goals
                            go_wp2_with fail
                            go_roundw
                            case rel => exact ⟨f + p, acc2, by omega, by go_num, rfl, HNX, hbn⟩
                            case measure => simp only [intOf]; omega
                        · have s4 : (colT z s (f + p) == colT z s (f + p + 1)) = false := by rw [beq_eq_false_iff_ne]; exact g4
                          have HNX := Lib.hid (hls.out.step (by rw [← HM.out]; exact g1) g2 (by unfold sameT; rw [s4, Bool.and_false]))
                          clear g4
                          go_wp2_with fail
                          go_roundw
                          case rel => exact ⟨p + 1, by go_num, HNX, by first | rfl | trivial⟩
                          case measure => simp only [intOf]; omega
                      · have s3 : decide ((f : Int) + (p : Int) + 1 < (M : Int)) = false := decide_eq_false (by omega)
                        have HNX := Lib.hid (hls.out.step (by rw [← HM.out]; exact g1) g2 (by unfold sameT; rw [← HM.out, decide_eq_false g3, Bool.false_and]))
                        go_wp2_with fail
                        go_roundw
                        case rel => exact ⟨p + 1, by go_num, HNX, by first | rfl | trivial⟩
                        case measure => simp only [intOf]; omega
                    · have s2 : decide ((p : Int) < 128) = false := decide_eq_false (by omega)
                      have HS2 : Hid (¬ (f + p < manyT z s ∧ p < 128 ∧ sameT z s (f + p) = false)) := Lib.hid (fun h => g2 h.2.1)
                      have hpd := LitSt.stop hls.out HS2.out
                      have hpc := piece_lit HSF.out hpd p1
                      have HNX := hst.out.step (by rw [← HM.out]; exact hlt)
                      rw [hpc, hpd] at HNX
                      have HNX := Lib.hid HNX
                      obtain ⟨c, hc⟩ : ∃ c, c = UInt8.ofNat (p - 1) := ⟨_, rfl⟩
                      have hcx : (p : Int) - 1 = (c.toNat : Int) := by rw [hc, u8_of _ (by omega)]; omega
                      rw [← hc] at HNX
                      have HCX := Lib.hid hcx
                      have hcv : (convert 22 9 (.slice (some ⟨wr.heap.size, 0, none⟩) 1 1)).run Try.prog (wr.alloc (.cells #[.int .u8 ((p : Int) - 1)] 5)).drew = .ok (.string ⟨#[c]⟩) (wr.alloc (.cells #[.int .u8 ((p : Int) - 1)] 5)).drew := byte_text wr.drew c ((p : Int) - 1) hcx wr.heap.size rfl
                      have hal := hst.out.le
                      have hpl := HPL.out
                      have hle : f * z + p * z ≤ s.length := by
                        have h5 : (f + p) * z ≤ manyT z s * z := Nat.mul_le_mul_right _ hls.out.r2
                        rw [HSZ.out, ← Nat.add_mul]; exact h5
                      have hsl9 := HL9.out
                      have e1 : (z : Int) * (f : Int) = ((f * z : Nat) : Int) := by rw [Int.mul_comm]; simp
                      have e2 : (z : Int) * ((f : Int) + (p : Int)) = ((f * z + p * z : Nat) : Int) := by rw [Int.mul_comm, Int.add_mul]; simp
                      have HS : ∀ W, (Instr.slice 9 (.string ⟨s.toArray⟩) (some (.int .i64 ((f * z : Nat) : Int))) (some (.int .i64 ((f * z + p * z : Nat) : Int))) none).run Try.prog W = .ok (.string ⟨(spanT z s f p).toArray⟩) W := fun W => by
                        rw [run_sl 9 s _ _ (f * z) (f * z + p * z) rfl rfl (Nat.le_add_right _ _) hle Try.underlying9 W]
                        unfold spanT
                        rw [show f * z + p * z - f * z = p * z by omega]
                      have hln : (spanT z s f p).length ≤ 1000000 := by
                        unfold spanT
                        simp
                        omega
                      have hle0 : f * z ≤ s.length := Nat.le_trans (Nat.le_add_right _ _) hle
                      generalize f * z + p * z = a1 at *
                      generalize f * z = a0 at *
                      have wa0 : IntKind.i64.wrap (a0 : Int) = (a0 : Int) := by rw [IntKind.wrap_i64]; omega
                      have wa1 : IntKind.i64.wrap (a1 : Int) = (a1 : Int) := by rw [IntKind.wrap_i64]; omega
                      obtain ⟨acc1, hacc1⟩ : ∃ l, l = acc ++ [c] := ⟨_, rfl⟩
                      have hcat1 : ∀ W, (Op.stringOp .add ⟨acc.toArray⟩ ⟨#[c]⟩).run Try.prog W = .ok (.string ⟨acc1.toArray⟩) W := fun W => by rw [hacc1]; exact run_cat acc [c] (by simp; omega) W
                      have hl1 : acc1.length ≤ 3000001 := by rw [hacc1]; simp; omega
                      obtain ⟨acc2, hacc2⟩ : ∃ l, l = acc1 ++ spanT z s f p := ⟨_, rfl⟩
                      have hcat2 : ∀ W, (Op.stringOp .add ⟨acc1.toArray⟩ ⟨(spanT z s f p).toArray⟩).run Try.prog W = .ok (.string ⟨acc2.toArray⟩) W := fun W => by rw [hacc2]; exact run_cat acc1 (spanT z s f p) (by omega) W
                      have HAC : Hid (acc2 = acc ++ c :: spanT z s f p) := Lib.hid (by rw [hacc2, hacc1]; simp)
                      rw [← HAC.out] at HNX
                      have wsub : IntKind.i64.wrap ((p : Int) - 1) = (p : Int) - 1 := by rw [IntKind.wrap_i64]; omega
                      have usub : IntKind.u8.wrap ((p : Int) - 1) = (p : Int) - 1 := by rw [IntKind.wrap_u8]; omega
                      have hbn := Lib.hid (hbw.out.drew.alloc (by exact hbw.out.size) (.cells #[.int .u8 ((p : Int) - 1)] 5))
                      have hq4 := HNX.out.1
                      rw [← HM.out] at hq4
                      clear hc hcx hal hpl hle hle0 hsl9 hln hacc1 hacc2 hl1 hpd hpc
                      go_wp2_with fail
                      go_region
                      all_goals
                        go_wp2_with fail
                        go_roundw
                        case rel => exact ⟨f + p, acc2, by omega, by go_num, rfl, HNX, hbn⟩
                        case measure => simp only [intOf]; omega
                  · have s1 : decide ((f : Int) + (p : Int) < (M : Int)) = false := decide_eq_false (by omega)
                    have HS2 : Hid (¬ (f + p < manyT z s ∧ p < 128 ∧ sameT z s (f + p) = false)) := Lib.hid (fun h => g1 (by rw [HM.out]; exact h.1))
                    have hpd := LitSt.stop hls.out HS2.out
                    have hpc := piece_lit HSF.out hpd p1
                    have HNX := hst.out.step (by rw [← HM.out]; exact hlt)
                    rw [hpc, hpd] at HNX
                    have HNX := Lib.hid HNX
                    obtain ⟨c, hc⟩ : ∃ c, c = UInt8.ofNat (p - 1) := ⟨_, rfl⟩
                    have hcx : (p : Int) - 1 = (c.toNat : Int) := by rw [hc, u8_of _ (by omega)]; omega
                    rw [← hc] at HNX
                    have HCX := Lib.hid hcx
                    have hcv : (convert 22 9 (.slice (some ⟨wr.heap.size, 0, none⟩) 1 1)).run Try.prog (wr.alloc (.cells #[.int .u8 ((p : Int) - 1)] 5)).drew = .ok (.string ⟨#[c]⟩) (wr.alloc (.cells #[.int .u8 ((p : Int) - 1)] 5)).drew := byte_text wr.drew c ((p : Int) - 1) hcx wr.heap.size rfl
                    have hal := hst.out.le
                    have hpl := HPL.out
                    have hle : f * z + p * z ≤ s.length := by
                      have h5 : (f + p) * z ≤ manyT z s * z := Nat.mul_le_mul_right _ hls.out.r2
                      rw [HSZ.out, ← Nat.add_mul]; exact h5
                    have hsl9 := HL9.out
                    have e1 : (z : Int) * (f : Int) = ((f * z : Nat) : Int) := by rw [Int.mul_comm]; simp
                    have e2 : (z : Int) * ((f : Int) + (p : Int)) = ((f * z + p * z : Nat) : Int) := by rw [Int.mul_comm, Int.add_mul]; simp
                    have HS : ∀ W, (Instr.slice 9 (.string ⟨s.toArray⟩) (some (.int .i64 ((f * z : Nat) : Int))) (some (.int .i64 ((f * z + p * z : Nat) : Int))) none).run Try.prog W = .ok (.string ⟨(spanT z s f p).toArray⟩) W := fun W => by
                      rw [run_sl 9 s _ _ (f * z) (f * z + p * z) rfl rfl (Nat.le_add_right _ _) hle Try.underlying9 W]
                      unfold spanT
                      rw [show f * z + p * z - f * z = p * z by omega]
                    have hln : (spanT z s f p).length ≤ 1000000 := by
                      unfold spanT
                      simp
                      omega
                    have hle0 : f * z ≤ s.length := Nat.le_trans (Nat.le_add_right _ _) hle
                    generalize f * z + p * z = a1 at *
                    generalize f * z = a0 at *
                    have wa0 : IntKind.i64.wrap (a0 : Int) = (a0 : Int) := by rw [IntKind.wrap_i64]; omega
                    have wa1 : IntKind.i64.wrap (a1 : Int) = (a1 : Int) := by rw [IntKind.wrap_i64]; omega
                    obtain ⟨acc1, hacc1⟩ : ∃ l, l = acc ++ [c] := ⟨_, rfl⟩
                    have hcat1 : ∀ W, (Op.stringOp .add ⟨acc.toArray⟩ ⟨#[c]⟩).run Try.prog W = .ok (.string ⟨acc1.toArray⟩) W := fun W => by rw [hacc1]; exact run_cat acc [c] (by simp; omega) W
                    have hl1 : acc1.length ≤ 3000001 := by rw [hacc1]; simp; omega
                    obtain ⟨acc2, hacc2⟩ : ∃ l, l = acc1 ++ spanT z s f p := ⟨_, rfl⟩
                    have hcat2 : ∀ W, (Op.stringOp .add ⟨acc1.toArray⟩ ⟨(spanT z s f p).toArray⟩).run Try.prog W = .ok (.string ⟨acc2.toArray⟩) W := fun W => by rw [hacc2]; exact run_cat acc1 (spanT z s f p) (by omega) W
                    have HAC : Hid (acc2 = acc ++ c :: spanT z s f p) := Lib.hid (by rw [hacc2, hacc1]; simp)
                    rw [← HAC.out] at HNX
                    have wsub : IntKind.i64.wrap ((p : Int) - 1) = (p : Int) - 1 := by rw [IntKind.wrap_i64]; omega
                    have usub : IntKind.u8.wrap ((p : Int) - 1) = (p : Int) - 1 := by rw [IntKind.wrap_u8]; omega
                    have hbn := Lib.hid (hbw.out.drew.alloc (by exact hbw.out.size) (.cells #[.int .u8 ((p : Int) - 1)] 5))
                    have hq4 := HNX.out.1
                    rw [← HM.out] at hq4
                    clear hc hcx hal hpl hle hle0 hsl9 hln hacc1 hacc2 hl1 hpd hpc
                    go_wp2_with fail
                    go_region
                    all_goals
                      go_wp2_with fail
                      go_roundw
                      case rel => exact ⟨f + p, acc2, by omega, by go_num, rfl, HNX, hbn⟩
                      case measure => simp only [intOf]; omega
          · have t1 : decide ((f : Int) + (q : Int) < (M : Int)) = false := decide_eq_false (by omega)
            have HSTOP := Lib.hid (hrs.out.stop (fun h => h1 (by rw [HM.out]; exact h.1)))
            by_cases hq : 1 < q
            · skip
              obtain ⟨hsT, hpd⟩ := HSTOP.out.2 hq
              have hpc := piece_run hsT hpd q1
              have HNX := hst.out.step (by rw [← HM.out]; exact hlt)
              rw [hpc, hpd] at HNX
              have HNX := Lib.hid HNX
              obtain ⟨c, hc⟩ : ∃ c, c = UInt8.ofNat (127 + q) := ⟨_, rfl⟩
              have hcx : 127 + (q : Int) = (c.toNat : Int) := by rw [hc, u8_of _ (by omega)]; omega
              rw [← hc] at HNX
              have HCX := Lib.hid hcx
              have hcv : (convert 22 9 (.slice (some ⟨wr.heap.size, 0, none⟩) 1 1)).run Try.prog (wr.alloc (.cells #[.int .u8 (127 + (q : Int))] 5)).drew = .ok (.string ⟨#[c]⟩) (wr.alloc (.cells #[.int .u8 (127 + (q : Int))] 5)).drew := byte_text wr.drew c (127 + (q : Int)) hcx wr.heap.size rfl
              have hal := hst.out.le
              have hpl := HPL.out
              have hcl := HCL.out f (by rw [← HM.out]; exact hlt)
              obtain ⟨acc1, hacc1⟩ : ∃ l, l = acc ++ [c] := ⟨_, rfl⟩
              have hcat1 : ∀ W, (Op.stringOp .add ⟨acc.toArray⟩ ⟨#[c]⟩).run Try.prog W = .ok (.string ⟨acc1.toArray⟩) W := fun W => by rw [hacc1]; exact run_cat acc [c] (by simp; omega) W
              have hl1 : acc1.length ≤ 3000001 := by rw [hacc1]; simp; omega
              obtain ⟨acc2, hacc2⟩ : ∃ l, l = acc1 ++ colT z s f := ⟨_, rfl⟩
              have hcat2 : ∀ W, (Op.stringOp .add ⟨acc1.toArray⟩ ⟨(colT z s f).toArray⟩).run Try.prog W = .ok (.string ⟨acc2.toArray⟩) W := fun W => by rw [hacc2]; exact run_cat acc1 (colT z s f) (by have := HZ.out; omega) W
              have HAC : Hid (acc2 = acc ++ c :: colT z s f) := Lib.hid (by rw [hacc2, hacc1]; simp)
              rw [← HAC.out] at HNX
              have w127 : IntKind.i64.wrap (127 + (q : Int)) = 127 + (q : Int) := by rw [IntKind.wrap_i64]; omega
              have u127 : IntKind.u8.wrap (127 + (q : Int)) = 127 + (q : Int) := by rw [IntKind.wrap_u8]; omega
              have t5 : decide ((1 : Int) < (q : Int)) = true := decide_eq_true (by omega)
              have hbn := Lib.hid (hbw.out.drew.alloc (by exact hbw.out.size) (.cells #[.int .u8 (127 + (q : Int))] 5))
              have KC1 := Lib.hid (fun W => KC.out f (f : Int) W (by rw [← HM.out]; exact hlt) rfl)
              have hq4 := HNX.out.1
              rw [← HM.out] at hq4
              clear hc hcx hal hpl hcl hacc1 hacc2 hl1 hsT hpd hpc
              go_wp2_with fail
              go_region_with (go_at_call 41; refine (KC1.out _).mono ?_; rintro e wx ⟨rfl, rfl⟩)
              all_goals
                go_wp2_with fail
                go_roundw
                case rel => exact ⟨f + q, acc2, by omega, by go_num, rfl, HNX, hbn⟩
                case measure => simp only [intOf]; omega
            · have HSF := Lib.hid (HSTOP.out.1 (by omega))
              have t5 : decide ((1 : Int) < (q : Int)) = false := decide_eq_false (by omega)
              clear HSTOP
              go_wp2_with fail
              obtain ⟨wo, rfl⟩ : ∃ wo : World, wo = wr := ⟨_, rfl⟩
              go_loopw [10] (fun r wr => ∃ p : Nat, r = .int .i64 (p : Int) ∧ Hid (LitSt z s f p) ∧ wr = wo) (fun r _ => 129 - (intOf r).toNat)
              case atStart => exact ⟨1, rfl, Lib.hid (LitSt.start (by rw [← HM.out]; exact hlt) HSF.out), rfl⟩
              case round =>
                obtain ⟨p, rfl, hls, rfl⟩ := hrel
                have p3 := hls.out.r3
                have p1 := hls.out.r1
                have x1 : IntKind.i64.wrap ((f : Int) + (p : Int)) = (f : Int) + (p : Int) := by rw [IntKind.wrap_i64]; omega
                by_cases g1 : f + p < M
                · have s1 : decide ((f : Int) + (p : Int) < (M : Int)) = true := decide_eq_true (by omega)
                  by_cases g2 : p < 128
                  · have s2 : decide ((p : Int) < 128) = true := decide_eq_true (by omega)
                    have x2 : IntKind.i64.wrap ((f : Int) + (p : Int) + 1) = (f : Int) + (p : Int) + 1 := by rw [IntKind.wrap_i64]; omega
                    have x3 : IntKind.i64.wrap ((p : Int) + 1) = (p : Int) + 1 := by rw [IntKind.wrap_i64]; omega
                    by_cases g3 : f + p + 1 < M
                    · have s3 : decide ((f : Int) + (p : Int) + 1 < (M : Int)) = true := decide_eq_true (by omega)
                      go_wp2_with fail
                      refine (KC.out (f + p) _ _ (by rw [← HM.out]; exact g1) (by simp)).mono ?_
                      rintro e wx ⟨rfl, hwx⟩; obtain rfl := hwx.symm
                      go_wp2_with fail
                      refine (KC.out (f + p + 1) _ _ (by rw [← HM.out]; exact g3) (by simp)).mono ?_
                      rintro e wx ⟨rfl, hwx⟩; obtain rfl := hwx.symm
                      by_cases g4 : colT z s (f + p) = colT z s (f + p + 1)
                      · have s4 : (colT z s (f + p) == colT z s (f + p + 1)) = true := by rw [beq_iff_eq]; exact g4
                        have HS2 : Hid (¬ (f + p < manyT z s ∧ p < 128 ∧ sameT z s (f + p) = false)) := Lib.hid (fun h => by
                          have h5 := h.2.2
                          unfold sameT at h5
                          rw [g4, ← HM.out, decide_eq_true g3] at h5
                          simp at h5)
                        clear g4
                        have hpd := LitSt.stop hls.out HS2.out
                        have hpc := piece_lit HSF.out hpd p1
                        have HNX := hst.out.step (by rw [← HM.out]; exact hlt)
                        rw [hpc, hpd] at HNX
                        have HNX := Lib.hid HNX
                        obtain ⟨c, hc⟩ : ∃ c, c = UInt8.ofNat (p - 1) := ⟨_, rfl⟩
                        have hcx : (p : Int) - 1 = (c.toNat : Int) := by rw [hc, u8_of _ (by omega)]; omega
                        rw [← hc] at HNX
                        have HCX := Lib.hid hcx
                        have hcv : (convert 22 9 (.slice (some ⟨wr.heap.size, 0, none⟩) 1 1)).run Try.prog (wr.alloc (.cells #[.int .u8 ((p : Int) - 1)] 5)).drew = .ok (.string ⟨#[c]⟩) (wr.alloc (.cells #[.int .u8 ((p : Int) - 1)] 5)).drew := byte_text wr.drew c ((p : Int) - 1) hcx wr.heap.size rfl
                        have hal := hst.out.le
                        have hpl := HPL.out
                        have hle : f * z + p * z ≤ s.length := by
                          have h5 : (f + p) * z ≤ manyT z s * z := Nat.mul_le_mul_right _ hls.out.r2
                          rw [HSZ.out, ← Nat.add_mul]; exact h5
                        have hsl9 := HL9.out
                        have e1 : (z : Int) * (f : Int) = ((f * z : Nat) : Int) := by rw [Int.mul_comm]; simp
                        have e2 : (z : Int) * ((f : Int) + (p : Int)) = ((f * z + p * z : Nat) : Int) := by rw [Int.mul_comm, Int.add_mul]; simp
                        have HS : ∀ W, (Instr.slice 9 (.string ⟨s.toArray⟩) (some (.int .i64 ((f * z : Nat) : Int))) (some (.int .i64 ((f * z + p * z : Nat) : Int))) none).run Try.prog W = .ok (.string ⟨(spanT z s f p).toArray⟩) W := fun W => by
                          rw [run_sl 9 s _ _ (f * z) (f * z + p * z) rfl rfl (Nat.le_add_right _ _) hle Try.underlying9 W]
                          unfold spanT
                          rw [show f * z + p * z - f * z = p * z by omega]
                        have hln : (spanT z s f p).length ≤ 1000000 := by
                          unfold spanT
                          simp
                          omega
                        have hle0 : f * z ≤ s.length := Nat.le_trans (Nat.le_add_right _ _) hle
                        generalize f * z + p * z = a1 at *
                        generalize f * z = a0 at *
                        have wa0 : IntKind.i64.wrap (a0 : Int) = (a0 : Int) := by rw [IntKind.wrap_i64]; omega
                        have wa1 : IntKind.i64.wrap (a1 : Int) = (a1 : Int) := by rw [IntKind.wrap_i64]; omega
                        obtain ⟨acc1, hacc1⟩ : ∃ l, l = acc ++ [c] := ⟨_, rfl⟩
                        have hcat1 : ∀ W, (Op.stringOp .add ⟨acc.toArray⟩ ⟨#[c]⟩).run Try.prog W = .ok (.string ⟨acc1.toArray⟩) W := fun W => by rw [hacc1]; exact run_cat acc [c] (by simp; omega) W
                        have hl1 : acc1.length ≤ 3000001 := by rw [hacc1]; simp; omega
                        obtain ⟨acc2, hacc2⟩ : ∃ l, l = acc1 ++ spanT z s f p := ⟨_, rfl⟩
                        have hcat2 : ∀ W, (Op.stringOp .add ⟨acc1.toArray⟩ ⟨(spanT z s f p).toArray⟩).run Try.prog W = .ok (.string ⟨acc2.toArray⟩) W := fun W => by rw [hacc2]; exact run_cat acc1 (spanT z s f p) (by omega) W
                        have HAC : Hid (acc2 = acc ++ c :: spanT z s f p) := Lib.hid (by rw [hacc2, hacc1]; simp)
                        rw [← HAC.out] at HNX
                        have wsub : IntKind.i64.wrap ((p : Int) - 1) = (p : Int) - 1 := by rw [IntKind.wrap_i64]; omega
                        have usub : IntKind.u8.wrap ((p : Int) - 1) = (p : Int) - 1 := by rw [IntKind.wrap_u8]; omega
                        have hbn := Lib.hid (hbw.out.drew.alloc (by exact hbw.out.size) (.cells #[.int .u8 ((p : Int) - 1)] 5))
                        have hq4 := HNX.out.1
                        rw [← HM.out] at hq4
                        clear hc hcx hal hpl hle hle0 hsl9 hln hacc1 hacc2 hl1 hpd hpc
                        go_wp2_with fail
                        go_region
                        all_goals
                          go_wp2_with fail
                          go_roundw
                          case rel => exact ⟨f + p, acc2, by omega, by go_num, rfl, HNX, hbn⟩
                          case measure => simp only [intOf]; omega
                      · have s4 : (colT z s (f + p) == colT z s (f + p + 1)) = false := by rw [beq_eq_false_iff_ne]; exact g4
                        have HNX := Lib.hid (hls.out.step (by rw [← HM.out]; exact g1) g2 (by unfold sameT; rw [s4, Bool.and_false]))
                        clear g4
                        go_wp2_with fail
                        go_roundw
                        case rel => exact ⟨p + 1, by go_num, HNX, by first | rfl | trivial⟩
                        case measure => simp only [intOf]; omega
                    · have s3 : decide ((f : Int) + (p : Int) + 1 < (M : Int)) = false := decide_eq_false (by omega)
                      have HNX := Lib.hid (hls.out.step (by rw [← HM.out]; exact g1) g2 (by unfold sameT; rw [← HM.out, decide_eq_false g3, Bool.false_and]))
                      go_wp2_with fail
                      go_roundw
                      case rel => exact ⟨p + 1, by go_num, HNX, by first | rfl | trivial⟩
                      case measure => simp only [intOf]; omega
                  · have s2 : decide ((p : Int) < 128) = false := decide_eq_false (by omega)
                    have HS2 : Hid (¬ (f + p < manyT z s ∧ p < 128 ∧ sameT z s (f + p) = false)) := Lib.hid (fun h => g2 h.2.1)
                    have hpd := LitSt.stop hls.out HS2.out
                    have hpc := piece_lit HSF.out hpd p1
                    have HNX := hst.out.step (by rw [← HM.out]; exact hlt)
                    rw [hpc, hpd] at HNX
                    have HNX := Lib.hid HNX
                    obtain ⟨c, hc⟩ : ∃ c, c = UInt8.ofNat (p - 1) := ⟨_, rfl⟩
                    have hcx : (p : Int) - 1 = (c.toNat : Int) := by rw [hc, u8_of _ (by omega)]; omega
                    rw [← hc] at HNX
                    have HCX := Lib.hid hcx
                    have hcv : (convert 22 9 (.slice (some ⟨wr.heap.size, 0, none⟩) 1 1)).run Try.prog (wr.alloc (.cells #[.int .u8 ((p : Int) - 1)] 5)).drew = .ok (.string ⟨#[c]⟩) (wr.alloc (.cells #[.int .u8 ((p : Int) - 1)] 5)).drew := byte_text wr.drew c ((p : Int) - 1) hcx wr.heap.size rfl
                    have hal := hst.out.le
                    have hpl := HPL.out
                    have hle : f * z + p * z ≤ s.length := by
                      have h5 : (f + p) * z ≤ manyT z s * z := Nat.mul_le_mul_right _ hls.out.r2
                      rw [HSZ.out, ← Nat.add_mul]; exact h5
                    have hsl9 := HL9.out
                    have e1 : (z : Int) * (f : Int) = ((f * z : Nat) : Int) := by rw [Int.mul_comm]; simp
                    have e2 : (z : Int) * ((f : Int) + (p : Int)) = ((f * z + p * z : Nat) : Int) := by rw [Int.mul_comm, Int.add_mul]; simp
                    have HS : ∀ W, (Instr.slice 9 (.string ⟨s.toArray⟩) (some (.int .i64 ((f * z : Nat) : Int))) (some (.int .i64 ((f * z + p * z : Nat) : Int))) none).run Try.prog W = .ok (.string ⟨(spanT z s f p).toArray⟩) W := fun W => by
                      rw [run_sl 9 s _ _ (f * z) (f * z + p * z) rfl rfl (Nat.le_add_right _ _) hle Try.underlying9 W]
                      unfold spanT
                      rw [show f * z + p * z - f * z = p * z by omega]
                    have hln : (spanT z s f p).length ≤ 1000000 := by
                      unfold spanT
                      simp
                      omega
                    have hle0 : f * z ≤ s.length := Nat.le_trans (Nat.le_add_right _ _) hle
                    generalize f * z + p * z = a1 at *
                    generalize f * z = a0 at *
                    have wa0 : IntKind.i64.wrap (a0 : Int) = (a0 : Int) := by rw [IntKind.wrap_i64]; omega
                    have wa1 : IntKind.i64.wrap (a1 : Int) = (a1 : Int) := by rw [IntKind.wrap_i64]; omega
                    obtain ⟨acc1, hacc1⟩ : ∃ l, l = acc ++ [c] := ⟨_, rfl⟩
                    have hcat1 : ∀ W, (Op.stringOp .add ⟨acc.toArray⟩ ⟨#[c]⟩).run Try.prog W = .ok (.string ⟨acc1.toArray⟩) W := fun W => by rw [hacc1]; exact run_cat acc [c] (by simp; omega) W
                    have hl1 : acc1.length ≤ 3000001 := by rw [hacc1]; simp; omega
                    obtain ⟨acc2, hacc2⟩ : ∃ l, l = acc1 ++ spanT z s f p := ⟨_, rfl⟩
                    have hcat2 : ∀ W, (Op.stringOp .add ⟨acc1.toArray⟩ ⟨(spanT z s f p).toArray⟩).run Try.prog W = .ok (.string ⟨acc2.toArray⟩) W := fun W => by rw [hacc2]; exact run_cat acc1 (spanT z s f p) (by omega) W
                    have HAC : Hid (acc2 = acc ++ c :: spanT z s f p) := Lib.hid (by rw [hacc2, hacc1]; simp)
                    rw [← HAC.out] at HNX
                    have wsub : IntKind.i64.wrap ((p : Int) - 1) = (p : Int) - 1 := by rw [IntKind.wrap_i64]; omega
                    have usub : IntKind.u8.wrap ((p : Int) - 1) = (p : Int) - 1 := by rw [IntKind.wrap_u8]; omega
                    have hbn := Lib.hid (hbw.out.drew.alloc (by exact hbw.out.size) (.cells #[.int .u8 ((p : Int) - 1)] 5))
                    have hq4 := HNX.out.1
                    rw [← HM.out] at hq4
                    clear hc hcx hal hpl hle hle0 hsl9 hln hacc1 hacc2 hl1 hpd hpc
                    go_wp2_with fail
                    go_region
                    all_goals
                      go_wp2_with fail
                      go_roundw
                      case rel => exact ⟨f + p, acc2, by omega, by go_num, rfl, HNX, hbn⟩
                      case measure => simp only [intOf]; omega
                · have s1 : decide ((f : Int) + (p : Int) < (M : Int)) = false := decide_eq_false (by omega)
                  have HS2 : Hid (¬ (f + p < manyT z s ∧ p < 128 ∧ sameT z s (f + p) = false)) := Lib.hid (fun h => g1 (by rw [HM.out]; exact h.1))
                  have hpd := LitSt.stop hls.out HS2.out
                  have hpc := piece_lit HSF.out hpd p1
                  have HNX := hst.out.step (by rw [← HM.out]; exact hlt)
                  rw [hpc, hpd] at HNX
                  have HNX := Lib.hid HNX
                  obtain ⟨c, hc⟩ : ∃ c, c = UInt8.ofNat (p - 1) := ⟨_, rfl⟩
                  have hcx : (p : Int) - 1 = (c.toNat : Int) := by rw [hc, u8_of _ (by omega)]; omega
                  rw [← hc] at HNX
                  have HCX := Lib.hid hcx
                  have hcv : (convert 22 9 (.slice (some ⟨wr.heap.size, 0, none⟩) 1 1)).run Try.prog (wr.alloc (.cells #[.int .u8 ((p : Int) - 1)] 5)).drew = .ok (.string ⟨#[c]⟩) (wr.alloc (.cells #[.int .u8 ((p : Int) - 1)] 5)).drew := byte_text wr.drew c ((p : Int) - 1) hcx wr.heap.size rfl
                  have hal := hst.out.le
                  have hpl := HPL.out
                  have hle : f * z + p * z ≤ s.length := by
                    have h5 : (f + p) * z ≤ manyT z s * z := Nat.mul_le_mul_right _ hls.out.r2
                    rw [HSZ.out, ← Nat.add_mul]; exact h5
                  have hsl9 := HL9.out
                  have e1 : (z : Int) * (f : Int) = ((f * z : Nat) : Int) := by rw [Int.mul_comm]; simp
                  have e2 : (z : Int) * ((f : Int) + (p : Int)) = ((f * z + p * z : Nat) : Int) := by rw [Int.mul_comm, Int.add_mul]; simp
                  have HS : ∀ W, (Instr.slice 9 (.string ⟨s.toArray⟩) (some (.int .i64 ((f * z : Nat) : Int))) (some (.int .i64 ((f * z + p * z : Nat) : Int))) none).run Try.prog W = .ok (.string ⟨(spanT z s f p).toArray⟩) W := fun W => by
                    rw [run_sl 9 s _ _ (f * z) (f * z + p * z) rfl rfl (Nat.le_add_right _ _) hle Try.underlying9 W]
                    unfold spanT
                    rw [show f * z + p * z - f * z = p * z by omega]
                  have hln : (spanT z s f p).length ≤ 1000000 := by
                    unfold spanT
                    simp
                    omega
                  have hle0 : f * z ≤ s.length := Nat.le_trans (Nat.le_add_right _ _) hle
                  generalize f * z + p * z = a1 at *
                  generalize f * z = a0 at *
                  have wa0 : IntKind.i64.wrap (a0 : Int) = (a0 : Int) := by rw [IntKind.wrap_i64]; omega
                  have wa1 : IntKind.i64.wrap (a1 : Int) = (a1 : Int) := by rw [IntKind.wrap_i64]; omega
                  obtain ⟨acc1, hacc1⟩ : ∃ l, l = acc ++ [c] := ⟨_, rfl⟩
                  have hcat1 : ∀ W, (Op.stringOp .add ⟨acc.toArray⟩ ⟨#[c]⟩).run Try.prog W = .ok (.string ⟨acc1.toArray⟩) W := fun W => by rw [hacc1]; exact run_cat acc [c] (by simp; omega) W
                  have hl1 : acc1.length ≤ 3000001 := by rw [hacc1]; simp; omega
                  obtain ⟨acc2, hacc2⟩ : ∃ l, l = acc1 ++ spanT z s f p := ⟨_, rfl⟩
                  have hcat2 : ∀ W, (Op.stringOp .add ⟨acc1.toArray⟩ ⟨(spanT z s f p).toArray⟩).run Try.prog W = .ok (.string ⟨acc2.toArray⟩) W := fun W => by rw [hacc2]; exact run_cat acc1 (spanT z s f p) (by omega) W
                  have HAC : Hid (acc2 = acc ++ c :: spanT z s f p) := Lib.hid (by rw [hacc2, hacc1]; simp)
                  rw [← HAC.out] at HNX
                  have wsub : IntKind.i64.wrap ((p : Int) - 1) = (p : Int) - 1 := by rw [IntKind.wrap_i64]; omega
                  have usub : IntKind.u8.wrap ((p : Int) - 1) = (p : Int) - 1 := by rw [IntKind.wrap_u8]; omega
                  have hbn := Lib.hid (hbw.out.drew.alloc (by exact hbw.out.size) (.cells #[.int .u8 ((p : Int) - 1)] 5))
                  have hq4 := HNX.out.1
                  rw [← HM.out] at hq4
                  clear hc hcx hal hpl hle hle0 hsl9 hln hacc1 hacc2 hl1 hpd hpc
                  go_wp2_with fail
                  go_region
                  all_goals
                    go_wp2_with fail
                    go_roundw
                    case rel => exact ⟨f + p, acc2, by omega, by go_num, rfl, HNX, hbn⟩
                    case measure => simp only [intOf]; omega
      · have t0 : decide ((f : Int) < (M : Int)) = false := decide_eq_false (by omega)
        have e9 := hst.out.done (by rw [← HM.out]; exact hlt)
        have HE9 := Lib.hid e9
        clear e9
        go_wp2_with fail
        go_ret2
        exact ⟨by rw [HE9.out]; rfl, hbw.out⟩
end Go.Proofs.Ytfkkppagbhllgaa
