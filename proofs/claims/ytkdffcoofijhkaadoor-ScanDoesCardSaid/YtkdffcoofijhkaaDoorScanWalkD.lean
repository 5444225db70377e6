/-
  THE STEPS OF scan.Print.
-/
import Derived.Test.YtkdffcoofijhkaaDoorScanWalkC
import Derived.Test.YtkdffcoofijhkaaDoorScanM
set_option linter.unusedVariables false
set_option linter.unusedSimpArgs false
set_option maxRecDepth 8000
namespace Go.Proofs.YtkdffcoofijhkaaDoor
open Go.RowKit

theorem trimright_any (l : List UInt8) (c : UInt8) (hc : c.toNat < 128) (w : World) (hl : l.length ≤ 100000) : Calls Tryd.prog 52 #[.string ⟨l.toArray⟩, .string ⟨#[c]⟩] w fun e w' =>
    e = .returned (.string ⟨(Lib.trimRightB l c).toArray⟩) ∧ w = w' :=
  (Tryd.strings_TrimRight_one ⟨l.toArray⟩ c hc w (by simp [ByteArray.size]; omega)).mono fun _ _ h => ⟨h.1, h.2.symm⟩
theorem trimsuffix_any (l : List UInt8) (c : UInt8) (w : World) (hl : l.length ≤ 100000) : Calls Tryd.prog 51 #[.string ⟨l.toArray⟩, .string ⟨#[c]⟩] w fun e w' =>
    e = .returned (.string ⟨(Lib.trimSuffix l [c]).toArray⟩) ∧ w = w' :=
  (Tryd.strings_TrimSuffix ⟨l.toArray⟩ ⟨#[c]⟩ w (by simp [ByteArray.size]; omega)).mono fun _ _ h => ⟨h.1, h.2.symm⟩

/-- a text and a number are handed back -/
def SE (w : World) (l : List UInt8) (z : Int) (e : Ending) (w' : World) : Prop := e = .returned (.tuple #[.string ⟨l.toArray⟩, .int .i64 z]) ∧ Below w.heap.size w w'

theorem print_no (n : Int) (w : World) (hn : i64b n) (h : ¬ (-1048576 ≤ n ∧ n ≤ 1048576)) : Calls Tryd.prog 23 #[.int .i64 n] w (SE w [] 5) := by
  unfold SE
  unfold i64b at hn
  by_cases h1 : n < -1048576
  · have t1 : decide (n < -1048576) = true := decide_eq_true h1
    clear h h1
    go_enter Tryd.func23, Tryd.ntmps23
    go_wp2_with fail
    go_ret2
    exact ⟨rfl, Below.refl _ _⟩
  · have t1 : decide (n < -1048576) = false := decide_eq_false h1
    have t2 : decide (1048576 < n) = true := decide_eq_true (by omega)
    clear h h1
    go_enter Tryd.func23, Tryd.ntmps23
    go_wp2_with fail
    go_ret2
    exact ⟨rfl, Below.refl _ _⟩

theorem itoa_pos (u : Nat) : Lib.itoa (u : Int) = Lib.decDigits u := by
  unfold Lib.itoa
  rw [if_neg (by omega), Int.toNat_natCast]
/-- the pieces of what is printed -/
theorem print_parts (N : Nat) (h : N ≤ 1048576) : ∃ fl r fr pt, Lib.itoa ((N : Int) / 256) = fl ∧ Lib.itoa ((N : Int) % 256 * 390625 + 100000000) = 49 :: r ∧ Lib.trimRightB r 48 = fr ∧ Lib.trimSuffix (46 :: fr) [46] = pt ∧
    Lib.decDigits (N / 256) ++ pointS (N % 256) = fl ++ pt ∧ fl.length ≤ 4 ∧ r.length = 8 ∧ fr.length ≤ 8 ∧ pt.length ≤ 9 := by
  have e1 : Lib.itoa ((N : Int) / 256) = Lib.decDigits (N / 256) := by rw [show (N : Int) / 256 = ((N / 256 : Nat) : Int) by omega, itoa_pos]
  have e2 : Lib.itoa ((N : Int) % 256 * 390625 + 100000000) = dgs (N % 256 * 390625 + 100000000) := by
    rw [show (N : Int) % 256 * 390625 + 100000000 = ((N % 256 * 390625 + 100000000 : Nat) : Int) by omega, itoa_pos, dec9 _ (by omega) (by omega)]
  obtain ⟨t1, t2, t3⟩ := dgs_tail (N % 256 * 390625 + 100000000) (by omega) (by omega)
  have hd : dgs (N % 256 * 390625 + 100000000) = 49 :: (dgs (N % 256 * 390625 + 100000000)).drop 1 := by
    have h0 : ∃ r, dgs (N % 256 * 390625 + 100000000) = UInt8.ofNat (48 + (N % 256 * 390625 + 100000000) / 10 ^ 8 % 10) :: r := ⟨_, rfl⟩
    obtain ⟨r, hr⟩ := h0
    rw [show (N % 256 * 390625 + 100000000) / 10 ^ 8 % 10 = 1 by omega] at hr
    rewrite [hr]; rfl
  rw [hd] at e2
  have hfr := (frac_is (N % 256) (Nat.mod_lt _ (by decide))).2.1
  have hpt := point_len (N % 256) (Nat.mod_lt _ (by decide))
  refine ⟨Lib.decDigits (N / 256), _, fracS (N % 256), pointS (N % 256), e1, e2, rfl, rfl, rfl, dec_len _ 3 (by omega), t2, hfr, hpt⟩

set_option maxHeartbeats 1600000 in
theorem print_yes (n : Int) (w : World) (h : -1048576 ≤ n ∧ n ≤ 1048576) (hE : Env w) : Calls Tryd.prog 23 #[.int .i64 n] w (SE w (printS n) 0) := by
  obtain ⟨fl, r, fr, pt, e1, e2, e3, e4, e5, l1, l2, l3, l4⟩ := print_parts n.natAbs (by omega)
  have HP : Hid (printS n = (if n < 0 then [45] else []) ++ (fl ++ pt)) := Lib.hid (by unfold printS; rw [e5])
  obtain ⟨N, hN⟩ : ∃ N : Nat, N = n.natAbs := ⟨_, rfl⟩
  rw [← hN] at e1 e2
  have K1 := Lib.hid (fun W hW => itoa_any ((N : Int) % 256 * 390625 + 100000000) W (by unfold i64b; omega) hW)
  have K2 := Lib.hid (fun W hW => itoa_any ((N : Int) / 256) W (by unfold i64b; omega) hW)
  have K3 := Lib.hid (fun W => trimright_any r 48 (by decide) W (by omega))
  have K4 := Lib.hid (fun W => trimsuffix_any (46 :: fr) 46 W (by simp; omega))
  rw [e1] at K2
  rw [e2] at K1
  rw [e3] at K3
  rw [e4] at K4
  have A2 := fun W => run_cat (P := Tryd.prog) [46] fr (by simp; omega) W
  have HS : ∀ W, (Instr.slice 9 (.string ⟨(49 :: r).toArray⟩) (some (.int .i64 1)) none none).run Tryd.prog W = .ok (.string ⟨r.toArray⟩) W := fun W => by
    rw [run_slice_string_from_if W 9 _ .i64 1 Tryd.underlying9, if_pos (by simp [ByteArray.size]; omega)]
    rw [ByteArray.extract_mk]
    have : List.take ((ByteArray.mk (49 :: r).toArray).size - (1 : Int).toNat) (List.drop (1 : Int).toNat (49 :: r)) = r := by simp [ByteArray.size]
    rw [this]
  have HE := Lib.hid hE; clear hE
  clear e1 e2 e3 e4 e5
  have hNb : N ≤ 1048576 := by omega
  have t1 : decide (n < -1048576) = false := decide_eq_false (by omega)
  have t2 : decide (1048576 < n) = false := decide_eq_false (by omega)
  have td : (N : Int).tdiv 256 = (N : Int) / 256 := Int.tdiv_eq_ediv_of_nonneg (by omega)
  have wd : IntKind.i64.wrap ((N : Int) / 256) = (N : Int) / 256 := by rw [IntKind.wrap_i64]; omega
  have FIN : Hid (∀ (l : List UInt8) w', l = printS n → Below w.heap.size w w' → SE w (printS n) 0 (.returned (.tuple #[.string ⟨l.toArray⟩, .int .i64 0])) w') := Lib.hid (fun l w' e hb => by rw [e]; exact ⟨rfl, hb⟩)
  generalize hQ : SE w (printS n) 0 = Qp at FIN ⊢
  clear hQ
  by_cases hn : n < 0
  · have t3 : decide (n < 0) = true := decide_eq_true hn
    have HF : Hid (45 :: fl ++ pt = printS n) := Lib.hid (by rw [HP.out, if_pos hn]; simp)
    have hneg : -n = (N : Int) := by omega
    have A1 := fun W => run_cat (P := Tryd.prog) [45] fl (by simp; omega) W
    have A3 := fun W => run_cat (P := Tryd.prog) (45 :: fl) pt (by simp; omega) W
    clear hN HP hn
    go_enter Tryd.func23, Tryd.ntmps23
    go_wp2_with fail
    refine (K1.out _ HE.out.tab).mono ?_
    clear K1
    rintro e w1 ⟨rfl, hb1⟩
    have HB := Lib.hid hb1; clear hb1
    go_wp2_with fail
    try simp only [List.append]
    go_region_held3 (fun w' => True) (trivial)
      (first
        | (go_at_call 50; refine (K2.out _ (HE.out.tab.on HB.out.drew)).mono ?_; clear K2; rintro e wx ⟨rfl, hbx⟩; have hby : Below w.heap.size w wx := HB.out.drew.trans (hbx.mono HB.out.size))
        | (go_at_call 52; refine (K3.out _).mono ?_; clear K3; rintro e wx ⟨rfl, rfl⟩)
        | (go_at_call 51; refine (K4.out _).mono ?_; clear K4; rintro e wx ⟨rfl, rfl⟩))
    go_wp2_with fail
    first | exact FIN.out _ _ HF.out hby | (go_ret2; exact FIN.out _ _ HF.out hby)
  · have t3 : decide (n < 0) = false := decide_eq_false hn
    have HF : Hid (fl ++ pt = printS n) := Lib.hid (by rw [HP.out, if_neg hn]; simp)
    have hneg : n = (N : Int) := by omega
    have A1 := fun W => run_cat (P := Tryd.prog) [] fl (by simp; omega) W
    have A3 := fun W => run_cat (P := Tryd.prog) fl pt (by omega) W
    clear hN HP hn
    subst hneg
    go_enter Tryd.func23, Tryd.ntmps23
    go_wp2_with fail
    refine (K1.out _ HE.out.tab).mono ?_
    clear K1
    rintro e w1 ⟨rfl, hb1⟩
    have HB := Lib.hid hb1; clear hb1
    go_wp2_with fail
    try simp only [List.append]
    go_region_held3 (fun w' => True) (trivial)
      (first
        | (go_at_call 50; refine (K2.out _ (HE.out.tab.on HB.out.drew)).mono ?_; clear K2; rintro e wx ⟨rfl, hbx⟩; have hby : Below w.heap.size w wx := HB.out.drew.trans (hbx.mono HB.out.size))
        | (go_at_call 52; refine (K3.out _).mono ?_; clear K3; rintro e wx ⟨rfl, rfl⟩)
        | (go_at_call 51; refine (K4.out _).mono ?_; clear K4; rintro e wx ⟨rfl, rfl⟩))
    go_wp2_with fail
    first | exact FIN.out _ _ HF.out hby | (go_ret2; exact FIN.out _ _ HF.out hby)
theorem print_any (n : Int) (w : World) (hn : i64b n) (hE : Env w) : Calls Tryd.prog 23 #[.int .i64 n] w (SE w (printR n).1 (printR n).2) := by
  unfold printR
  by_cases h : -1048576 ≤ n ∧ n ≤ 1048576
  · rw [if_pos h]; exact print_yes n w h hE
  · rw [if_neg h]; exact print_no n w hn h
end Go.Proofs.YtkdffcoofijhkaaDoor
