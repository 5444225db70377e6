/-
  THE WALKS OF limewashref07's Place, whole and cut.
-/
import Derived.Test.YtkdffcoofijhkaaDoorFaceRfA
import Derived.Test.YtkdffcoofijhkaaDoorFaceRfP
import Derived.Test.YtkdffcoofijhkaaDoorScanWalkF
set_option linter.unusedVariables false
set_option linter.unusedSimpArgs false
set_option maxRecDepth 8000
namespace Go.Proofs.YtkdffcoofijhkaaDoor
open Go.RowKit

set_option maxHeartbeats 800000 in
theorem placeref_any (l : List UInt8) (many : Int) (w : World) (hl : l.length ≤ 100000) (hm : i64b many) :
    Calls Tryd.prog 31 #[.string ⟨l.toArray⟩, .int .i64 many] w fun e w' => e = .returned (.tuple #[.int .i64 (placeR l many).1, .int .i64 (placeR l many).2]) ∧ w' = w := by
  have KW := Lib.hid (fun W => wholeref_any l W hl)
  obtain ⟨m1, m2⟩ := hm
  cases hw : wholeOk l with
  | false =>
    have HR : Hid (placeR l many = (0, 6)) := Lib.hid (by unfold placeR; rw [hw]; rfl)
    have e : wholeS l = (0, 6) := by unfold wholeS; rw [hw]; rfl
    rw [e] at KW
    dsimp only at KW
    clear e hw
    go_enter Tryd.func31, Tryd.ntmps31
    go_wp2_with fail
    refine (KW.out _).mono ?_
    clear KW
    rintro e wx ⟨rfl, hwx⟩; obtain rfl := hwx.symm
    go_wp2_with fail
    go_ret2
    exact ⟨by rw [HR.out]; rfl, rfl⟩
  | true =>
    obtain ⟨b1, b2⟩ := (whole_is l hw).2
    have e : wholeS l = (wholeN l, 0) := by unfold wholeS; rw [hw]; rfl
    rw [e] at KW
    dsimp only at KW
    have hp : placeR l many = if 1 ≤ wholeN l ∧ wholeN l ≤ many then (wholeN l - 1, 0) else if wholeN l ≤ -1 ∧ -wholeN l ≤ many then (many + wholeN l, 0) else (0, 7) := by unfold placeR; rw [hw]; rfl
    have HP := Lib.hid hp
    generalize wholeN l = n at *
    clear e hw hp
    have wn : IntKind.i64.wrap (-n) = -n := by rw [IntKind.wrap_i64]; omega
    by_cases h1 : 1 ≤ n
    · have t1 : decide (1 ≤ n) = true := decide_eq_true h1
      have w1 : IntKind.i64.wrap (n - 1) = n - 1 := by rw [IntKind.wrap_i64]; omega
      by_cases h2 : n ≤ many
      · have t2 : decide (n ≤ many) = true := decide_eq_true h2
        have HR : Hid (placeR l many = (n - 1, 0)) := Lib.hid (by rw [HP.out, if_pos ⟨h1, h2⟩])
        clear h1 h2
        go_enter Tryd.func31, Tryd.ntmps31
        go_wp2_with fail
        refine (KW.out _).mono ?_
        clear KW
        rintro e wx ⟨rfl, hwx⟩; obtain rfl := hwx.symm
        go_wp2_with fail
        go_ret2
        exact ⟨by rw [HR.out]; rfl, rfl⟩
      · have t2 : decide (n ≤ many) = false := decide_eq_false h2
        have t3 : decide (n ≤ -1) = false := decide_eq_false (by omega)
        have HR : Hid (placeR l many = (0, 7)) := Lib.hid (by rw [HP.out, if_neg (by omega), if_neg (by omega)])
        clear h1 h2
        go_enter Tryd.func31, Tryd.ntmps31
        go_wp2_with fail
        refine (KW.out _).mono ?_
        clear KW
        rintro e wx ⟨rfl, hwx⟩; obtain rfl := hwx.symm
        go_wp2_with fail
        go_ret2
        exact ⟨by rw [HR.out]; rfl, rfl⟩
    · have t1 : decide (1 ≤ n) = false := decide_eq_false h1
      by_cases h3 : n ≤ -1
      · have t3 : decide (n ≤ -1) = true := decide_eq_true h3
        by_cases h4 : -n ≤ many
        · have t4 : decide (-n ≤ many) = true := decide_eq_true h4
          have w2 : IntKind.i64.wrap (many + n) = many + n := by rw [IntKind.wrap_i64]; omega
          have HR : Hid (placeR l many = (many + n, 0)) := Lib.hid (by rw [HP.out, if_neg (by omega), if_pos ⟨h3, h4⟩])
          clear h1 h3 h4
          go_enter Tryd.func31, Tryd.ntmps31
          go_wp2_with fail
          refine (KW.out _).mono ?_
          clear KW
          rintro e wx ⟨rfl, hwx⟩; obtain rfl := hwx.symm
          go_wp2_with fail
          go_ret2
          exact ⟨by rw [HR.out]; rfl, rfl⟩
        · have t4 : decide (-n ≤ many) = false := decide_eq_false h4
          have HR : Hid (placeR l many = (0, 7)) := Lib.hid (by rw [HP.out, if_neg (by omega), if_neg (by omega)])
          clear h1 h3 h4
          go_enter Tryd.func31, Tryd.ntmps31
          go_wp2_with fail
          refine (KW.out _).mono ?_
          clear KW
          rintro e wx ⟨rfl, hwx⟩; obtain rfl := hwx.symm
          go_wp2_with fail
          go_ret2
          exact ⟨by rw [HR.out]; rfl, rfl⟩
      · have t3 : decide (n ≤ -1) = false := decide_eq_false h3
        have HR : Hid (placeR l many = (0, 7)) := Lib.hid (by rw [HP.out, if_neg (by omega), if_neg (by omega)])
        clear h1 h3
        go_enter Tryd.func31, Tryd.ntmps31
        go_wp2_with fail
        refine (KW.out _).mono ?_
        clear KW
        rintro e wx ⟨rfl, hwx⟩; obtain rfl := hwx.symm
        go_wp2_with fail
        go_ret2
        exact ⟨by rw [HR.out]; rfl, rfl⟩
theorem iswhole_any (l : List UInt8) (w : World) (hl : l.length ≤ 100000) :
    Calls Tryd.prog 57 #[.string ⟨l.toArray⟩] w fun e w' => e = .returned (.bool (wholeOk l)) ∧ w' = w := by
  have KW := Lib.hid (fun W => wholeref_any l W hl)
  cases hw : wholeOk l with
  | false =>
    have e : wholeS l = (0, 6) := by unfold wholeS; rw [hw]; rfl
    rw [e] at KW
    dsimp only at KW
    clear e hw
    go_enter Tryd.func57, Tryd.ntmps57
    go_wp2_with fail
    refine (KW.out _).mono ?_
    rintro e wx ⟨rfl, hwx⟩; obtain rfl := hwx.symm
    go_wp2_with fail
    go_ret
    exact ⟨rfl, rfl⟩
  | true =>
    have e : wholeS l = (wholeN l, 0) := by unfold wholeS; rw [hw]; rfl
    rw [e] at KW
    dsimp only at KW
    clear e hw
    go_enter Tryd.func57, Tryd.ntmps57
    go_wp2_with fail
    refine (KW.out _).mono ?_
    rintro e wx ⟨rfl, hwx⟩; obtain rfl := hwx.symm
    go_wp2_with fail
    go_ret
    exact ⟨rfl, rfl⟩
theorem size_str : (Tryd.prog.info? 9).map (fun i => (i.zero, i.size, i.bytes)) = some (some (.string ⟨#[]⟩), 1, 16) := by kernel_rfl
theorem strs_of_own {w : World} {base : Nat} {t : TypeId} {A : Option Addr} {n c : Nat} {ls : List (List UInt8)} (h : w.ownsRow base t 1 (.slice A n c) n (ls.map strV)) (hn : n ≤ 1000000) : Strs w w.heap.size A n ls := ⟨Rd.of_own h, by omega⟩
set_option maxHeartbeats 1600000 in
theorem rcut_any (s : List UInt8) (w : World) (hl : s.length ≤ 100000) :
    Calls Tryd.prog 56 #[.string ⟨s.toArray⟩] w fun e w' => Below w.heap.size w w' ∧ ∃ A n c, e = .returned (.slice A n c) ∧ Strs w' w'.heap.size A n (split1 47 s) := by
  obtain ⟨i0, hi0, hz0, hzz1, hzz2⟩ := info_parts size_str
  have FIN : Hid (∀ A n c W, Below w.heap.size w W → Strs W W.heap.size A n (split1 47 s) → (fun e w' => Below w.heap.size w w' ∧ ∃ A n c, e = Ending.returned (.slice A n c) ∧ Strs w' w'.heap.size A n (split1 47 s)) (.returned (.slice A n c)) W) := Lib.hid fun A n c W h1 h2 => ⟨h1, A, n, c, rfl, h2⟩
  generalize hQ : (fun e w' => Below w.heap.size w w' ∧ ∃ A n c, e = Ending.returned (.slice A n c) ∧ Strs w' w'.heap.size A n (split1 47 s)) = Qp at FIN ⊢
  clear hQ
  go_enter Tryd.func56, Tryd.ntmps56
  go_wp2_with fail
  go_loopw [3, 4, 5] (fun v f i wr => ∃ (out : List (List UInt8)) (a k : Nat), f = .int .i64 (a : Int) ∧ i = .int .i64 (k : Int) ∧ Hid (CutSt 47 s out a k) ∧ wr.ownsRow w.heap.size 9 1 v out.length (out.map strV) ∧ Hid (Below w.heap.size w wr)) (fun _ _ i _ => s.length - (intOf i).toNat)
  case atStart => exact ⟨[], 0, 0, rfl, rfl, Lib.hid (CutSt.start 47 s), World.ownsRow_nil _ _ _ _, Lib.hid (Below.refl _ _)⟩
  case round =>
    obtain ⟨out, a, k, rfl, rfl, hst, hown, hbr⟩ := hrel
    have hal := hst.out.fi
    have hkl := hst.out.il
    have hcn := hst.out.count
    have wk1 : IntKind.i64.wrap ((k : Int) + 1) = (k : Int) + 1 := by rw [IntKind.wrap_i64]; omega
    by_cases hlt : k < s.length
    · have t0 : decide ((k : Int) < (s.length : Int)) = true := decide_eq_true (by omega)
      have t0n : decide (k < s.length) = true := decide_eq_true (by omega)
      obtain ⟨c, hc⟩ : ∃ c, s[k]? = some c := ⟨_, List.getElem?_eq_getElem hlt⟩
      have hik := idx_str s k (k : Int) c hc rfl
      have hck : s[k] = c := by rw [List.getElem?_eq_getElem hlt] at hc; injection hc
      have hq := u8_eq c 47 (by decide)
      by_cases h47 : c = 47
      · have t8 : (((c.toNat : Nat) : Int) == 47) = true := by rw [show (47 : Int) = ((47 : Nat) : Int) from rfl, hq, h47]; rfl
        have HNX := Lib.hid (hst.out.hit hlt (hck.trans h47))
        obtain ⟨T, hT⟩ : ∃ T, T = (s.drop a).take (k - a) := ⟨_, rfl⟩
        rw [← hT] at HNX
        have HS : ∀ W, (Instr.slice 9 (.string ⟨s.toArray⟩) (some (.int .i64 (a : Int))) (some (.int .i64 (k : Int))) none).run Tryd.prog W = .ok (.string ⟨T.toArray⟩) W := fun W => by
          rw [run_sl 9 s _ _ a k rfl rfl hal (by omega) Tryd.underlying9 W, hT]
        have hbb : Below wr.heap.size wr (wr.alloc (.cells #[.string ⟨T.toArray⟩] 9)) := (Below.refl _ _).alloc (Nat.le_refl _) _
        have HB8 := Lib.hid (hbr.out.trans (hbb.mono hbr.out.size))
        have HO8 := Lib.hid (hown.alloc (.cells #[.string ⟨T.toArray⟩] 9))
        have HN8 := Lib.hid (World.news_of_block (heap_alloc_new wr (.cells #[.string ⟨T.toArray⟩] 9)))
        have hbz := hbb.size
        have hbw := hbr.out.size
        obtain ⟨A', c', hv⟩ := own_shape hown
        subst hv
        clear hq h47 hck hc hT hbb hown
        go_wp2_with (at_builtin; refine wpList_append_lies _ rfl (.tmp 16) (.tmp 21) _ rfl w.heap.size 9 i0 _ 1 16 Tryd.underlying30 hi0 hz0 hzz1 hzz2 rfl (by decide) (.slice A' out.length c') out.length (out.map strV) rfl HO8.out ⟨wr.heap.size, 0, none⟩ 1 1 [.string ⟨T.toArray⟩] rfl rfl HN8.out (by simp [Value.oneCell']) (by decide) (by unfold maxLen; omega) (by omega) (by simp; omega) _ rfl ?_; intro gg cap w9 hown9 hgr9 hat9 hlt9; have HB9 := Lib.hid (HB8.out.grown hgr9 HB8.out.size (fun j hj => by have := (HO8.out.lt _ hj).1; omega)); have HO9 := Lib.hid hown9; clear hown9 hgr9 hat9)
        go_roundw
        case rel => exact ⟨out ++ [T], k + 1, k + 1, by go_num, by go_num, HNX, by rw [List.length_append, List.map_append]; exact HO9.out, HB9⟩
        case measure => simp only [intOf]; omega
      · have t8 : (((c.toNat : Nat) : Int) == 47) = false := by rw [show (47 : Int) = ((47 : Nat) : Int) from rfl, hq, beq_eq_false_iff_ne]; exact h47
        have HNX := Lib.hid (hst.out.skip hlt (by rw [hck]; exact h47))
        clear hq h47 hck hc
        go_wp2_with fail
        go_roundw
        case rel => exact ⟨out, a, k + 1, rfl, by go_num, HNX, hown, hbr⟩
        case measure => simp only [intOf]; omega
    · have t0 : decide ((k : Int) < (s.length : Int)) = false := decide_eq_false (by omega)
      have t0n : decide (k < s.length) = false := decide_eq_false (by omega)
      have hkk : k = s.length := by omega
      have hst2 := hst.out
      rw [hkk] at hst2
      have HDN := Lib.hid hst2.done
      obtain ⟨T, hT⟩ : ∃ T, T = s.drop a := ⟨_, rfl⟩
      rw [← hT] at HDN
      have HS := run_sl_from (P := Tryd.prog) 9 s (a : Int) a rfl (by omega) Tryd.underlying9
      rw [← hT] at HS
      have hbb : Below wr.heap.size wr (wr.alloc (.cells #[.string ⟨T.toArray⟩] 9)) := (Below.refl _ _).alloc (Nat.le_refl _) _
      have HB8 := Lib.hid (hbr.out.trans (hbb.mono hbr.out.size))
      have HO8 := Lib.hid (hown.alloc (.cells #[.string ⟨T.toArray⟩] 9))
      have HN8 := Lib.hid (World.news_of_block (heap_alloc_new wr (.cells #[.string ⟨T.toArray⟩] 9)))
      have hbw := hbr.out.size
      obtain ⟨A', c', hv⟩ := own_shape hown
      subst hv
      clear hT hbb hown hst2 hkk hst
      go_wp2_with (at_builtin; refine wpList_append_lies _ rfl (.tmp 25) (.tmp 29) _ rfl w.heap.size 9 i0 _ 1 16 Tryd.underlying30 hi0 hz0 hzz1 hzz2 rfl (by decide) (.slice A' out.length c') out.length (out.map strV) rfl HO8.out ⟨wr.heap.size, 0, none⟩ 1 1 [.string ⟨T.toArray⟩] rfl rfl HN8.out (by simp [Value.oneCell']) (by decide) (by unfold maxLen; omega) (by omega) (by simp; omega) _ rfl ?_; intro gg cap w9 hown9 hgr9 hat9 hlt9; have HB9 := Lib.hid (HB8.out.grown hgr9 HB8.out.size (fun j hj => by have := (HO8.out.lt _ hj).1; omega)); have HO9 := Lib.hid hown9; clear hown9 hgr9 hat9)
      first
        | (go_ret; refine FIN.out _ _ _ _ HB9.out ?_; rw [HDN.out]; exact strs_of_own (by rw [List.map_append]; exact HO9.out) (by omega))
        | (refine FIN.out _ _ _ _ HB9.out ?_; rw [HDN.out]; exact strs_of_own (by rw [List.map_append]; exact HO9.out) (by omega))
end Go.Proofs.YtkdffcoofijhkaaDoor
