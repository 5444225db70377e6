/-
  THE WALK OF limewashref27.Values (as in DilRefB, for a seat that has no package dilate).
-/
import Derived.Test.YtfkkppagbhllgaaLevT
import Derived.Test.YtfkkppagbhllgaaTgaWalkR
import Derived.Test.YtfkkppagbhllgaaBase
import Derived.Test.YtfkkppagbhllgaaProg
import Derived.Test.YtfkkppagbhllgaaContT
import Derived.Test.YtfkkppagbhllgaaSlot
import Derived.Test.YtfkkppagbhllgaaTgaWalkL
import Derived.Test.YtfkkppagbhllgaaTgaPic
import Derived.Test.YtfkkppagbhllgaaGd1
import Derived.Test.YtfkkppagbhllgaaTgaRefD
set_option linter.unusedVariables false
set_option linter.unusedSimpArgs false
namespace Go.Proofs.Ytfkkppagbhllgaa
open Go.RowKit

theorem values_any (B : Nat) (A : Option Addr) (n c : Nat) (v : List Int) (ww : Int) (w : World) (hI : Ints w B A n v) (hn : n ≤ 1000) (bw : i64b ww) :
    Calls Try.prog 39 #[.int .i64 ww, .slice A n c] w fun e w' => e = .returned (.bool (levelOk ww v)) ∧ w' = w := by
  have hl := Lib.hid hI.length
  obtain ⟨bw1, bw2⟩ := bw
  by_cases h1 : ww < 1
  · have d1 : decide (ww < 1) = true := decide_eq_true h1
    have HL : Hid (levelOk ww v = false) := Lib.hid (by unfold levelOk; rw [decide_eq_false (show ¬ 1 ≤ ww by omega)]; rfl)
    go_enter Try.func39, Try.ntmps39
    go_wp2_with fail
    go_ret
    exact ⟨ret_bool HL.out.symm, rfl⟩
  have d1 : decide (ww < 1) = false := decide_eq_false h1
  by_cases h2 : 256 < ww
  · have d2 : decide (256 < ww) = true := decide_eq_true h2
    have HL : Hid (levelOk ww v = false) := Lib.hid (by unfold levelOk; rw [decide_eq_false (show ¬ ww ≤ 256 by omega)]; simp)
    go_enter Try.func39, Try.ntmps39
    go_wp2_with fail
    go_ret
    exact ⟨ret_bool HL.out.symm, rfl⟩
  have d2 : decide (256 < ww) = false := decide_eq_false h2
  obtain ⟨q, rfl⟩ : ∃ q : Nat, ww = q := ⟨ww.toNat, by omega⟩
  have q1 : (1 : Int) ≤ (q : Int) := by omega
  cases h3 : ((n : Int) % (q : Int) != 0)
  case true =>
    have HL : Hid (levelOk q v = false) := Lib.hid (by
      unfold levelOk
      rw [hl.out, decide_eq_false (show ¬ (n : Int) % q = 0 by simpa using h3)]; simp)
    go_enter Try.func39, Try.ntmps39
    go_wp2_with fail
    go_ret
    exact ⟨ret_bool HL.out.symm, rfl⟩
  have h3' : (n : Int) % q = 0 := by simpa using h3
  have hdm := Int.mul_ediv_add_emod (n : Int) q
  rw [h3', Int.add_zero] at hdm
  have n0 : 0 ≤ (n : Int) / q := Int.ediv_nonneg (by omega) (by omega)
  have n1 : (n : Int) / q ≤ 1000 := Int.le_trans (Int.ediv_le_self _ (by omega)) (by omega)
  have h4e : (256 < (n : Int) / q) ↔ ¬ ((n : Int) ≤ q * 256) := by
    constructor
    · intro h hh
      have : (q : Int) * 257 ≤ q * ((n : Int) / q) := Int.mul_le_mul_of_nonneg_left (by omega) (by omega)
      omega
    · intro h
      refine Int.not_le.1 fun hh => h ?_
      have : (q : Int) * ((n : Int) / q) ≤ q * 256 := Int.mul_le_mul_of_nonneg_left hh (by omega)
      omega
  have HDM := Lib.hid hdm; clear hdm
  have H3 := Lib.hid h3'; clear h3'
  by_cases h4 : 256 < (n : Int) / q
  · have d4 : decide (256 < (n : Int) / q) = true := decide_eq_true h4
    have HL : Hid (levelOk q v = false) := Lib.hid (by
      unfold levelOk
      rw [hl.out, decide_eq_false (h4e.1 h4)]; simp)
    clear h4e
    go_enter Try.func39, Try.ntmps39
    go_wp2_with fail
    go_ret
    exact ⟨ret_bool HL.out.symm, rfl⟩
  have d4 : decide (256 < (n : Int) / q) = false := decide_eq_false h4
  have HL : Hid (levelOk q v = v.all grey) := Lib.hid (by
    have h5 : (n : Int) ≤ q * 256 := by
      refine Int.not_lt.1 fun hh => h4 (h4e.2 (by omega))
    unfold levelOk
    rw [hl.out, decide_eq_true h5, decide_eq_true H3.out, decide_eq_true (show (1 : Int) ≤ q by omega), decide_eq_true (show (q : Int) ≤ 256 by omega)]; rfl)
  clear h4e
  go_enter Try.func39, Try.ntmps39
  go_wp2_with fail
  go_loop [5] (fun i => ∃ k : Nat, k ≤ n ∧ i = .int .i64 k ∧ Hid (∀ x ∈ v.take k, grey x = true)) (fun i => n - (intOf i).toNat)
  case atStart => exact ⟨0, by omega, rfl, Lib.hid (by simp)⟩
  case round =>
    obtain ⟨k, hk, rfl, hgr⟩ := hrel
    by_cases hlt : k < n
    · obtain ⟨ad, x, rfl, hb, hx, hm, hc, hlo, hhi⟩ := hI.get hlt
      have HX := Lib.hid hx; clear hx
      have k0 : (0 : Int) ≤ (k : Int) := by omega
      have k1 : (k : Int) < (n : Int) := by omega
      have t0 : decide ((k : Int) < (n : Int)) = true := decide_eq_true k1
      have HNO : Hid (grey x = false → levelOk q v = false) := Lib.hid fun h => by
        rw [HL.out, List.all_eq_false]; exact ⟨x, hm, by rw [h]; simp⟩
      clear hm
      by_cases g1 : x < -1
      · have e1 : decide (x < -1) = true := decide_eq_true g1
        go_wp2_with fail
        go_ret
        exact ⟨ret_bool (HNO.out (by unfold grey; rw [decide_eq_false (show ¬ -1 ≤ x by omega)]; rfl)).symm, rfl⟩
      have e1 : decide (x < -1) = false := decide_eq_false g1
      by_cases g2 : 255 < x
      · have e2 : decide (255 < x) = true := decide_eq_true g2
        go_wp2_with fail
        go_ret
        exact ⟨ret_bool (HNO.out (by unfold grey; rw [decide_eq_false (show ¬ x ≤ 255 by omega)]; simp)).symm, rfl⟩
      have e2 : decide (255 < x) = false := decide_eq_false g2
      go_wp2_with fail
      go_round
      case rel => exact ⟨k + 1, by omega, by go_num, Lib.hid fun y hy => by
          rw [take_snoc' _ _ _ HX.out] at hy
          rcases List.mem_append.1 hy with hy | hy
          · exact hgr.out y hy
          · simp only [List.mem_singleton] at hy; subst hy; exact grey_iff.2 ⟨by omega, by omega⟩⟩
      case measure => simp only [intOf]; omega
    · have t0 : decide ((k : Int) < (n : Int)) = false := decide_eq_false (by omega)
      have HT : Hid (levelOk q v = true) := Lib.hid (by
        rw [HL.out, List.all_eq_true]
        intro x hx
        exact hgr.out x (by rw [List.take_of_length_le (by rw [hl.out]; omega)]; exact hx))
      go_wp2_with fail
      go_ret
      exact ⟨ret_bool HT.out.symm, rfl⟩

end Go.Proofs.Ytfkkppagbhllgaa

/-
  THE WALK OF limewashref29.Grey.
-/
set_option linter.unusedVariables false
set_option linter.unusedSimpArgs false
set_option maxRecDepth 100000
namespace Go.Proofs.Ytfkkppagbhllgaa
open Go.RowKit

set_option maxHeartbeats 1600000 in
theorem greyref_any (A : Option Addr) (n c : Nat) (v : List Int) (ww b : Int) (w : World) (hI : Ints w w.heap.size A n v) (hn : n ≤ 1000) (bw : i64b ww) :
    Calls Try.prog 15 #[.int .i64 ww, .slice A n c, .int .i64 b] w (GreyRes ww v b w) := by
  have FNO : Hid (∀ W, greyOk ww v b = false → Below w.heap.size w W → GreyRes ww v b w (.returned (.tuple #[zimV, .int .i64 1])) W) := Lib.hid fun W h hW => ⟨hW, .inl ⟨h, rfl⟩⟩
  have HGN : Hid (¬ (levelOk ww v = true ∧ 0 < v.length ∧ v.any ((-1 : Int) == ·) = false ∧ (b = 24 ∨ b = 32)) → greyOk ww v b = false) := Lib.hid fun h => by
    cases hg : greyOk ww v b with
    | false => rfl
    | true => exact absurd (greyOk_iff.1 hg) h
  have FYES : Hid (∀ A' n' c' z W, greyOk ww v b = true → z = (b / 8).toNat → Below w.heap.size w W → Byts W W.heap.size A' n' (greyT z v) → n' ≤ c' → c' ≤ 9223372036854775807 → GreyRes ww v b w (.returned (.tuple #[imV ww ((n : Int) / ww) b A' n' c', .int .i64 0])) W) := Lib.hid fun A' n' c' z W h hz hW h1 h2 h3 => by
    refine ⟨hW, .inr ⟨h, A', n', c', ?_, by rw [← hz]; exact h1, h2, h3⟩⟩
    rw [hI.length]
  generalize hQ : GreyRes ww v b w = Qp at FNO FYES ⊢
  clear hQ
  have hl := Lib.hid hI.length
  have hB1 : Below w.heap.size w (w.alloc (.cells zimC 24)) := (Below.refl _ _).alloc (Nat.le_refl _) _
  have HS1 := Lib.hid (SlotN.new w zim zimC 24 rfl)
  have KV := Lib.hid (fun W (hW : Below w.heap.size w W) => values_any w.heap.size A n c v ww W (hI.below hW (Nat.le_refl _)) hn bw)
  have HB1 := Lib.hid hB1
  have hz1 : (w.alloc (.cells zimC 24)).heap.size = w.heap.size + 1 := by simp
  have HI := Lib.hid hI
  clear hI hB1 bw
  unfold zimC at *
  cases hlv : levelOk ww v with
  | false =>
    rw [hlv] at KV
    have HNO := Lib.hid (HGN.out (fun h => by rw [hlv] at h; cases h.1))
    clear hlv
    have e0 := HS1.out.c 0 _ rfl
    have e1 := HS1.out.c 1 _ rfl
    have e2 := HS1.out.c 2 _ rfl
    have e3 := HS1.out.c 3 _ rfl
    go_enter Try.func15, Try.ntmps15
    go_wp2_with fail
    refine (KV.out _ HB1.out).mono ?_
    rintro e w1 ⟨rfl, hw1⟩; obtain rfl := hw1.symm
    clear KV
    go_wp2_with fail
    exact bodyPost_ret (v := .tuple #[zimV, .int .i64 1]) (by simp [results, Try.results15, go_sem, e0, e1, e2, e3, zimV]) rfl (FNO.out _ HNO.out HB1.out)
  | true =>
    rw [hlv] at KV
    rcases Nat.eq_zero_or_pos n with rfl | h0
    · have HNO := Lib.hid (HGN.out (fun h => by have := h.2.1; have := hl.out; omega))
      clear hlv
      have e0 := HS1.out.c 0 _ rfl
      have e1 := HS1.out.c 1 _ rfl
      have e2 := HS1.out.c 2 _ rfl
      have e3 := HS1.out.c 3 _ rfl
      go_enter Try.func15, Try.ntmps15
      go_wp2_with fail
      refine (KV.out _ HB1.out).mono ?_
      rintro e w1 ⟨rfl, hw1⟩; obtain rfl := hw1.symm
      clear KV
      go_wp2_with fail
      exact bodyPost_ret (v := .tuple #[zimV, .int .i64 1]) (by simp [results, Try.results15, go_sem, e0, e1, e2, e3, zimV]) rfl (FNO.out _ HNO.out HB1.out)
    · have t0 : ((n : Int) == 0) = false := by rw [beq_eq_false_iff_ne]; omega
      by_cases h24 : b = 24
      · subst h24
        obtain ⟨q1, q2, q3, q4, q5⟩ := levelOk_iff.1 hlv
        obtain ⟨q, rfl⟩ : ∃ q : Nat, ww = q := ⟨ww.toNat, by omega⟩
        have HLV := Lib.hid hlv
        have HG := Lib.hid (fun x (hx : x ∈ v) => q5 x hx)
        have td : Int.tdiv (n : Int) (q : Int) = (n : Int) / (q : Int) := Int.tdiv_eq_ediv_of_nonneg (by omega)
        have q0 : (q : Int) ≠ 0 := by omega
        have hd0 : 0 ≤ (n : Int) / (q : Int) := Int.ediv_nonneg (by omega) (by omega)
        have hd1 : (n : Int) / (q : Int) ≤ 1000 := Int.le_trans (Int.ediv_le_self _ (by omega)) (by omega)
        generalize (n : Int) / (q : Int) = hh at *
        have wd : IntKind.i64.wrap hh = hh := by rw [IntKind.wrap_i64]; omega
        clear q1 q2 q3 q4 q5 hlv
        obtain ⟨i0, hi0, hz0, hzz1, hzz2⟩ := info_parts size_u8
        have hM0 := SlotN.new (w.alloc (.cells #[.int .i64 0, .int .i64 0, .int .i64 0, .slice none 0 0] 24)) [.int .i64 (q : Int), .int .i64 hh, .int .i64 24, .slice none 0 0] #[.int .i64 (q : Int), .int .i64 hh, .int .i64 24, .slice none 0 0] 24 rfl
        rw [hz1] at hM0
        have HM := Lib.hid hM0
        have HS' := Lib.hid (HS1.out.below ((Below.refl (w.heap.size + 1) _).alloc (by simp) (.cells #[.int .i64 (q : Int), .int .i64 hh, .int .i64 24, .slice none 0 0] 24)) (by omega))
        have HB' := Lib.hid (HB1.out.alloc HB1.out.size (.cells #[.int .i64 (q : Int), .int .i64 hh, .int .i64 24, .slice none 0 0] 24))
        have hz2 : w.heap.size + 1 < ((w.alloc (.cells #[.int .i64 0, .int .i64 0, .int .i64 0, .slice none 0 0] 24)).alloc (.cells #[.int .i64 (q : Int), .int .i64 hh, .int .i64 24, .slice none 0 0] 24)).heap.size := by simp
        clear hM0
        go_enter Try.func15, Try.ntmps15
        go_wp2_with fail
        refine (KV.out _ HB1.out).mono ?_
        rintro e w1 ⟨rfl, hw1⟩; obtain rfl := hw1.symm
        clear KV hw1
        go_wp2_with fail
        go_loopw [9] (fun i wr => ∃ (k : Nat) (A' : Option Addr) (c' : Nat), k ≤ n ∧ i = .int .i64 (k : Int) ∧ Hid (SlotN wr (w.heap.size + 1) [.int .i64 (q : Int), .int .i64 hh, .int .i64 24, .slice A' (k * 3) c']) ∧
          wr.ownsRow (w.heap.size + 2) 5 1 (.slice A' (k * 3) c') (k * 3) (Lib.byteCells (greyT 3 (v.take k))) ∧ Hid (SlotN wr w.heap.size zim) ∧ Hid (Below w.heap.size w wr) ∧ w.heap.size + 1 < wr.heap.size ∧ Hid ((v.take k).any ((-1 : Int) == ·) = false)) (fun i _ => n - (intOf i).toNat)
        case atStart => exact ⟨0, none, 0, Nat.zero_le _, rfl, by simpa using HM, by rw [Nat.zero_mul, List.take_zero]; exact World.ownsRow_nil _ _ _ _, HS', HB', hz2, Lib.hid (by simp)⟩
        case round =>
          obtain ⟨k, A', c', hk, rfl, HM2, hown, HS2, HBr, hzr, hany⟩ := hrel
          clear HM HS' HB' hz2
          by_cases hlt : k < n
          · have k1 : (k : Int) < (n : Int) := by omega
            have t3 : decide ((k : Int) < (n : Int)) = true := decide_eq_true (by omega)
            have t3n : decide (k < n) = true := decide_eq_true (by omega)
            obtain ⟨ad, x, rfl, hbl, hx, hm, hc, _, _⟩ := (HI.out.below HBr.out (Nat.le_refl _)).get hlt
            have k0 : (0 : Int) ≤ (k : Int) := by omega
            have hgx := HG.out x hm
            by_cases hx0 : x < 0
            · have t4 : decide (x < 0) = true := decide_eq_true hx0
              have hxm : x = -1 := by have := grey_iff.1 hgx; omega
              have HNO := Lib.hid (HGN.out (fun h => by
                have h9 := List.any_eq_false.1 h.2.2.1 x hm
                rw [hxm] at h9
                exact h9 rfl))
              clear hxm hx hm hgx
              have c0 := HS2.out.c 0 _ rfl
              have c1' := HS2.out.c 1 _ rfl
              have c2 := HS2.out.c 2 _ rfl
              have c3 := HS2.out.c 3 _ rfl
              have f0 := HS2.out.f 0
              have f1 := HS2.out.f 1
              have f2 := HS2.out.f 2
              have f3 := HS2.out.f 3
              have hs2 := Lib.hid ((((HS2.out.setAt 0 (by simp [zim]) (.int .i64 0)).setAt 1 (by simp [zim]) (.int .i64 0)).setAt 2 (by simp [zim]) (.int .i64 0)).setAt 3 (by simp [zim]) (.slice none 0 0))
              have HB2 := Lib.hid ((((HBr.out.setCell (p := ⟨w.heap.size, 0, none⟩) (Nat.le_refl _) (.int .i64 0)).setCell (p := ⟨w.heap.size, 1, none⟩) (Nat.le_refl _) (.int .i64 0)).setCell (p := ⟨w.heap.size, 2, none⟩) (Nat.le_refl _) (.int .i64 0)).setCell (p := ⟨w.heap.size, 3, none⟩) (Nat.le_refl _) (.slice none 0 0))
              clear HM2 hown
              go_wp2_with fail
              clear c0 c1' c2 c3 f0 f1 f2 f3
              generalize World.setCell _ ⟨w.heap.size, 3, none⟩ (.slice none 0 0) = V at *
              have e0 := hs2.out.c 0 _ rfl
              have e1 := hs2.out.c 1 _ rfl
              have e2 := hs2.out.c 2 _ rfl
              have e3 := hs2.out.c 3 _ rfl
              exact bodyPost_ret (v := .tuple #[zimV, .int .i64 1]) (by simp [results, Try.results15, go_sem, e0, e1, e2, e3, zimV]) rfl (FNO.out _ HNO.out HB2.out)
            · obtain ⟨b, rfl, hub⟩ := grey_byte hgx (fun e => hx0 (by rw [e]; decide))
              have t4 : decide ((b.toNat : Int) < 0) = false := decide_eq_false (by omega)
              have HT : Hid (greyT 3 (v.take (k + 1)) = greyT 3 (v.take k) ++ greyC 3 (b.toNat : Int)) := Lib.hid (by rw [take_snoc' _ _ _ hx, greyT_snoc])
              have HAN : Hid ((v.take (k + 1)).any ((-1 : Int) == ·) = false) := Lib.hid (by
                rw [take_snoc' _ _ _ hx, List.any_append, hany.out]
                have : ((-1 : Int) == (b.toNat : Int)) = false := by rw [beq_eq_false_iff_ne]; omega
                simp [this])
              have HUB := Lib.hid hub
              have hb8 : b.toNat < 256 := b.toNat_lt
              have wu : IntKind.u8.wrap (b.toNat : Int) = (b.toNat : Int) := by rw [IntKind.wrap_u8]; omega
              clear hx hm hub hgx hx0
              have hbb : Below wr.heap.size wr (wr.alloc (.cells #[.int .u8 (b.toNat : Int), .int .u8 (b.toNat : Int), .int .u8 (b.toNat : Int)] 5)) := (Below.refl _ _).alloc (Nat.le_refl _) _
              have HB8 := Lib.hid (HBr.out.alloc HBr.out.size (.cells #[.int .u8 (b.toNat : Int), .int .u8 (b.toNat : Int), .int .u8 (b.toNat : Int)] 5))
              have HM8 := Lib.hid (HM2.out.below hbb hzr)
              have HS8 := Lib.hid (HS2.out.below hbb (by omega))
              have HN8 := Lib.hid (World.news_of_block (heap_alloc_new wr (.cells #[.int .u8 (b.toNat : Int), .int .u8 (b.toNat : Int), .int .u8 (b.toNat : Int)] 5)))
              have HO8 := Lib.hid (hown.alloc (.cells #[.int .u8 (b.toNat : Int), .int .u8 (b.toNat : Int), .int .u8 (b.toNat : Int)] 5))
              have hz8 : w.heap.size + 1 < (wr.alloc (.cells #[.int .u8 (b.toNat : Int), .int .u8 (b.toNat : Int), .int .u8 (b.toNat : Int)] 5)).heap.size := by simp; omega
              have m8 := HM8.out.c 3 _ rfl
              have hx0 := HM2.out.c 3 _ rfl
              clear HM2 HS2 hown hbb HBr
              go_wp2_with (at_builtin; refine wpList_append_lies _ rfl (.tmp 54) (.tmp 58) _ rfl (w.heap.size + 2) 5 i0 _ 1 1 Try.underlying22 hi0 hz0 hzz1 hzz2 rfl (by decide) (.slice A' (k * 3) c') (k * 3) (Lib.byteCells (greyT 3 (v.take k))) rfl HO8.out ⟨wr.heap.size, 0, none⟩ 3 3 [.int .u8 (b.toNat : Int), .int .u8 (b.toNat : Int), .int .u8 (b.toNat : Int)] rfl rfl HN8.out (by simp [Value.oneCell']) (by decide) (by unfold maxLen; omega) (by omega) (by simp; omega) _ rfl ?_; intro gg cap w9 hown9 hgr9 hat9 hlt9; have hne9 : some (w.heap.size + 1) ≠ (Value.slice A' (k * 3) c').ownBlock := (fun e => by have := (HO8.out.lt _ e.symm).1; omega); have HM9 := Lib.hid (slot_far HM8.out hgr9 hne9 hz8); have HS9 := Lib.hid (slot_far HS8.out hgr9 (fun e => by have := (HO8.out.lt _ e.symm).1; omega) (by omega)); have HB9 := Lib.hid (HB8.out.grown hgr9 HB8.out.size (fun j hj => by have := (HO8.out.lt _ hj).1; omega)); have HO9 := Lib.hid hown9; have m9 := HM9.out.c 3 _ rfl; have f9 := HM9.out.f 3; have hz9 : w.heap.size + 1 < w9.heap.size := Nat.lt_of_lt_of_le hz8 hgr9.size; clear hown9 hgr9 hne9 hat9)
              have HM10 := Lib.hid (HM9.out.setAt 3 (by simp) (.slice (some ⟨gg, 0, none⟩) (k * 3 + 3) cap))
              have HS10 := Lib.hid (HS9.out.otherJ (w.heap.size + 1) 3 (by omega) (.slice (some ⟨gg, 0, none⟩) (k * 3 + 3) cap))
              have HB10 := Lib.hid (HB9.out.setCell (p := ⟨w.heap.size + 1, 3, none⟩) (by simp) (.slice (some ⟨gg, 0, none⟩) (k * 3 + 3) cap))
              have HO10 := Lib.hid (own_kept HO9.out (grown_set _ (w.heap.size + 1) 3 (.slice (some ⟨gg, 0, none⟩) (k * 3 + 3) cap)) (by omega))
              have HE : Hid (Lib.byteCells (greyT 3 (v.take k)) ++ [.int .u8 (b.toNat : Int), .int .u8 (b.toNat : Int), .int .u8 (b.toNat : Int)] = Lib.byteCells (greyT 3 (v.take (k + 1)))) := Lib.hid (by
                rw [HT.out]
                unfold greyC
                rw [HUB.out]
                simp [Lib.byteCells])
              have hz10 : w.heap.size + 1 < (w9.setCell ⟨w.heap.size + 1, 3, none⟩ (.slice (some ⟨gg, 0, none⟩) (k * 3 + 3) cap)).heap.size := by simpa using hz9
              clear HM8 HS8 HB8 HO8 HN8 m9 f9 HM9 HS9 HB9 HO9 hz9 hz8 m8 hx0
              go_roundw
              case rel => exact ⟨k + 1, some ⟨gg, 0, none⟩, cap, by omega, by go_num, by rw [Nat.succ_mul]; exact HM10, by rw [Nat.succ_mul, ← HE.out]; exact HO10.out, HS10, HB10, hz10, HAN⟩
              case measure => simp only [intOf]; omega
          · have t3 : decide ((k : Int) < (n : Int)) = false := decide_eq_false (by omega)
            have t3n : decide (k < n) = false := decide_eq_false (by omega)
            obtain rfl : k = n := by omega
            have m0 := HM2.out.c 0 _ rfl
            have m1 := HM2.out.c 1 _ rfl
            have m2 := HM2.out.c 2 _ rfl
            have m3 := HM2.out.c 3 _ rfl
            have s0 := HS2.out.c 0 _ rfl
            have s1 := HS2.out.c 1 _ rfl
            have s2 := HS2.out.c 2 _ rfl
            have s3 := HS2.out.c 3 _ rfl
            have f0 := HS2.out.f 0
            have f1 := HS2.out.f 1
            have f2 := HS2.out.f 2
            have f3 := HS2.out.f 3
            have HR := Lib.hid ((((HS2.out.setAt 0 (by simp [zim]) (.int .i64 (q : Int))).setAt 1 (by simp [zim]) (.int .i64 hh)).setAt 2 (by simp [zim]) (.int .i64 24)).setAt 3 (by simp [zim]) (.slice A' (k * 3) c'))
            have HB3 := Lib.hid ((((HBr.out.setCell (p := ⟨w.heap.size, 0, none⟩) (Nat.le_refl _) (.int .i64 (q : Int))).setCell (p := ⟨w.heap.size, 1, none⟩) (Nat.le_refl _) (.int .i64 hh)).setCell (p := ⟨w.heap.size, 2, none⟩) (Nat.le_refl _) (.int .i64 24)).setCell (p := ⟨w.heap.size, 3, none⟩) (Nat.le_refl _) (.slice A' (k * 3) c'))
            have HO := Lib.hid (own_kept (own_kept (own_kept (own_kept hown (grown_set _ w.heap.size 0 (.int .i64 (q : Int))) (by omega)) (grown_set _ w.heap.size 1 (.int .i64 hh)) (by omega)) (grown_set _ w.heap.size 2 (.int .i64 24)) (by omega)) (grown_set _ w.heap.size 3 (.slice A' (k * 3) c')) (by omega))
            have HV : Hid (v.take k = v) := Lib.hid (List.take_of_length_le (by rw [hl.out]; exact Nat.le_refl _))
            have HOK : Hid (greyOk (q : Int) v 24 = true) := Lib.hid (greyOk_iff.2 ⟨HLV.out, by rw [hl.out]; exact h0, by have := hany.out; rwa [HV.out] at this, by omega⟩)
            clear hown HS2 HBr HM2
            go_wp2_with fail
            generalize World.setCell _ ⟨w.heap.size, 3, none⟩ (.slice A' (k * 3) c') = V at *
            clear s0 s1 s2 s3 f0 f1 f2 f3 m0 m1 m2 m3
            have e0 := HR.out.c 0 _ rfl
            have e1 := HR.out.c 1 _ rfl
            have e2 := HR.out.c 2 _ rfl
            have e3 := HR.out.c 3 _ rfl
            have HO' := HO.out
            rw [HV.out] at HO'
            have hcp := own_cap HO'
            exact bodyPost_ret (v := .tuple #[.agg #[.int .i64 (q : Int), .int .i64 hh, .int .i64 24, .slice A' (k * 3) c'], .int .i64 0]) (by simp [results, Try.results15, go_sem, e0, e1, e2, e3]) rfl (FYES.out A' (k * 3) c' 3 _ HOK.out rfl HB3.out ⟨Rd.of_own HO', by have := hcp.1; have := hcp.2; omega⟩ hcp.1 hcp.2)
      · by_cases h32 : b = 32
        · subst h32
          obtain ⟨q1, q2, q3, q4, q5⟩ := levelOk_iff.1 hlv
          obtain ⟨q, rfl⟩ : ∃ q : Nat, ww = q := ⟨ww.toNat, by omega⟩
          have HLV := Lib.hid hlv
          have HG := Lib.hid (fun x (hx : x ∈ v) => q5 x hx)
          have td : Int.tdiv (n : Int) (q : Int) = (n : Int) / (q : Int) := Int.tdiv_eq_ediv_of_nonneg (by omega)
          have q0 : (q : Int) ≠ 0 := by omega
          have hd0 : 0 ≤ (n : Int) / (q : Int) := Int.ediv_nonneg (by omega) (by omega)
          have hd1 : (n : Int) / (q : Int) ≤ 1000 := Int.le_trans (Int.ediv_le_self _ (by omega)) (by omega)
          generalize (n : Int) / (q : Int) = hh at *
          have wd : IntKind.i64.wrap hh = hh := by rw [IntKind.wrap_i64]; omega
          clear q1 q2 q3 q4 q5 hlv
          obtain ⟨i0, hi0, hz0, hzz1, hzz2⟩ := info_parts size_u8
          have hM0 := SlotN.new (w.alloc (.cells #[.int .i64 0, .int .i64 0, .int .i64 0, .slice none 0 0] 24)) [.int .i64 (q : Int), .int .i64 hh, .int .i64 32, .slice none 0 0] #[.int .i64 (q : Int), .int .i64 hh, .int .i64 32, .slice none 0 0] 24 rfl
          rw [hz1] at hM0
          have HM := Lib.hid hM0
          have HS' := Lib.hid (HS1.out.below ((Below.refl (w.heap.size + 1) _).alloc (by simp) (.cells #[.int .i64 (q : Int), .int .i64 hh, .int .i64 32, .slice none 0 0] 24)) (by omega))
          have HB' := Lib.hid (HB1.out.alloc HB1.out.size (.cells #[.int .i64 (q : Int), .int .i64 hh, .int .i64 32, .slice none 0 0] 24))
          have hz2 : w.heap.size + 1 < ((w.alloc (.cells #[.int .i64 0, .int .i64 0, .int .i64 0, .slice none 0 0] 24)).alloc (.cells #[.int .i64 (q : Int), .int .i64 hh, .int .i64 32, .slice none 0 0] 24)).heap.size := by simp
          clear hM0
          go_enter Try.func15, Try.ntmps15
          go_wp2_with fail
          refine (KV.out _ HB1.out).mono ?_
          rintro e w1 ⟨rfl, hw1⟩; obtain rfl := hw1.symm
          clear KV hw1
          go_wp2_with fail
          go_loopw [9] (fun i wr => ∃ (k : Nat) (A' : Option Addr) (c' : Nat), k ≤ n ∧ i = .int .i64 (k : Int) ∧ Hid (SlotN wr (w.heap.size + 1) [.int .i64 (q : Int), .int .i64 hh, .int .i64 32, .slice A' (k * 4) c']) ∧
            wr.ownsRow (w.heap.size + 2) 5 1 (.slice A' (k * 4) c') (k * 4) (Lib.byteCells (greyT 4 (v.take k))) ∧ Hid (SlotN wr w.heap.size zim) ∧ Hid (Below w.heap.size w wr) ∧ w.heap.size + 1 < wr.heap.size ∧ Hid ((v.take k).any ((-1 : Int) == ·) = false)) (fun i _ => n - (intOf i).toNat)
          case atStart => exact ⟨0, none, 0, Nat.zero_le _, rfl, by simpa using HM, by rw [Nat.zero_mul, List.take_zero]; exact World.ownsRow_nil _ _ _ _, HS', HB', hz2, Lib.hid (by simp)⟩
          case round =>
            obtain ⟨k, A', c', hk, rfl, HM2, hown, HS2, HBr, hzr, hany⟩ := hrel
            clear HM HS' HB' hz2
            by_cases hlt : k < n
            · have k1 : (k : Int) < (n : Int) := by omega
              have t3 : decide ((k : Int) < (n : Int)) = true := decide_eq_true (by omega)
              have t3n : decide (k < n) = true := decide_eq_true (by omega)
              obtain ⟨ad, x, rfl, hbl, hx, hm, hc, _, _⟩ := (HI.out.below HBr.out (Nat.le_refl _)).get hlt
              have k0 : (0 : Int) ≤ (k : Int) := by omega
              have hgx := HG.out x hm
              by_cases hx0 : x < 0
              · have t4 : decide (x < 0) = true := decide_eq_true hx0
                have hxm : x = -1 := by have := grey_iff.1 hgx; omega
                have HNO := Lib.hid (HGN.out (fun h => by
                  have h9 := List.any_eq_false.1 h.2.2.1 x hm
                  rw [hxm] at h9
                  exact h9 rfl))
                clear hxm hx hm hgx
                have c0 := HS2.out.c 0 _ rfl
                have c1' := HS2.out.c 1 _ rfl
                have c2 := HS2.out.c 2 _ rfl
                have c3 := HS2.out.c 3 _ rfl
                have f0 := HS2.out.f 0
                have f1 := HS2.out.f 1
                have f2 := HS2.out.f 2
                have f3 := HS2.out.f 3
                have hs2 := Lib.hid ((((HS2.out.setAt 0 (by simp [zim]) (.int .i64 0)).setAt 1 (by simp [zim]) (.int .i64 0)).setAt 2 (by simp [zim]) (.int .i64 0)).setAt 3 (by simp [zim]) (.slice none 0 0))
                have HB2 := Lib.hid ((((HBr.out.setCell (p := ⟨w.heap.size, 0, none⟩) (Nat.le_refl _) (.int .i64 0)).setCell (p := ⟨w.heap.size, 1, none⟩) (Nat.le_refl _) (.int .i64 0)).setCell (p := ⟨w.heap.size, 2, none⟩) (Nat.le_refl _) (.int .i64 0)).setCell (p := ⟨w.heap.size, 3, none⟩) (Nat.le_refl _) (.slice none 0 0))
                clear HM2 hown
                go_wp2_with fail
                clear c0 c1' c2 c3 f0 f1 f2 f3
                generalize World.setCell _ ⟨w.heap.size, 3, none⟩ (.slice none 0 0) = V at *
                have e0 := hs2.out.c 0 _ rfl
                have e1 := hs2.out.c 1 _ rfl
                have e2 := hs2.out.c 2 _ rfl
                have e3 := hs2.out.c 3 _ rfl
                exact bodyPost_ret (v := .tuple #[zimV, .int .i64 1]) (by simp [results, Try.results15, go_sem, e0, e1, e2, e3, zimV]) rfl (FNO.out _ HNO.out HB2.out)
              · obtain ⟨b, rfl, hub⟩ := grey_byte hgx (fun e => hx0 (by rw [e]; decide))
                have t4 : decide ((b.toNat : Int) < 0) = false := decide_eq_false (by omega)
                have HT : Hid (greyT 4 (v.take (k + 1)) = greyT 4 (v.take k) ++ greyC 4 (b.toNat : Int)) := Lib.hid (by rw [take_snoc' _ _ _ hx, greyT_snoc])
                have HAN : Hid ((v.take (k + 1)).any ((-1 : Int) == ·) = false) := Lib.hid (by
                  rw [take_snoc' _ _ _ hx, List.any_append, hany.out]
                  have : ((-1 : Int) == (b.toNat : Int)) = false := by rw [beq_eq_false_iff_ne]; omega
                  simp [this])
                have HUB := Lib.hid hub
                have hb8 : b.toNat < 256 := b.toNat_lt
                have wu : IntKind.u8.wrap (b.toNat : Int) = (b.toNat : Int) := by rw [IntKind.wrap_u8]; omega
                clear hx hm hub hgx hx0
                have hbb : Below wr.heap.size wr (wr.alloc (.cells #[.int .u8 (b.toNat : Int), .int .u8 (b.toNat : Int), .int .u8 (b.toNat : Int)] 5)) := (Below.refl _ _).alloc (Nat.le_refl _) _
                have HB8 := Lib.hid (HBr.out.alloc HBr.out.size (.cells #[.int .u8 (b.toNat : Int), .int .u8 (b.toNat : Int), .int .u8 (b.toNat : Int)] 5))
                have HM8 := Lib.hid (HM2.out.below hbb hzr)
                have HS8 := Lib.hid (HS2.out.below hbb (by omega))
                have HN8 := Lib.hid (World.news_of_block (heap_alloc_new wr (.cells #[.int .u8 (b.toNat : Int), .int .u8 (b.toNat : Int), .int .u8 (b.toNat : Int)] 5)))
                have HO8 := Lib.hid (hown.alloc (.cells #[.int .u8 (b.toNat : Int), .int .u8 (b.toNat : Int), .int .u8 (b.toNat : Int)] 5))
                have hz8 : w.heap.size + 1 < (wr.alloc (.cells #[.int .u8 (b.toNat : Int), .int .u8 (b.toNat : Int), .int .u8 (b.toNat : Int)] 5)).heap.size := by simp; omega
                have m8 := HM8.out.c 3 _ rfl
                have hx0 := HM2.out.c 3 _ rfl
                clear HM2 HS2 hown hbb HBr
                go_wp2_with (first | (at_builtin; refine wpList_append_lies _ rfl (.tmp 54) (.tmp 58) _ rfl (w.heap.size + 2) 5 i0 _ 1 1 Try.underlying22 hi0 hz0 hzz1 hzz2 rfl (by decide) (.slice A' (k * 4) c') (k * 4) (Lib.byteCells (greyT 4 (v.take k))) rfl HO8.out ⟨wr.heap.size, 0, none⟩ 3 3 [.int .u8 (b.toNat : Int), .int .u8 (b.toNat : Int), .int .u8 (b.toNat : Int)] rfl rfl HN8.out (by simp [Value.oneCell']) (by decide) (by unfold maxLen; omega) (by omega) (by simp; omega) _ rfl ?_; intro gg cap w9 hown9 hgr9 hat9 hlt9; have hne9 : some (w.heap.size + 1) ≠ (Value.slice A' (k * 4) c').ownBlock := (fun e => by have := (HO8.out.lt _ e.symm).1; omega); have HM9 := Lib.hid (slot_far HM8.out hgr9 hne9 hz8); have HS9 := Lib.hid (slot_far HS8.out hgr9 (fun e => by have := (HO8.out.lt _ e.symm).1; omega) (by omega)); have HB9 := Lib.hid (HB8.out.grown hgr9 HB8.out.size (fun j hj => by have := (HO8.out.lt _ hj).1; omega)); have HO9 := Lib.hid hown9; have m9 := HM9.out.c 3 _ rfl; have f9 := HM9.out.f 3; have hz9 : w.heap.size + 1 < w9.heap.size := Nat.lt_of_lt_of_le hz8 hgr9.size; have HM10 := Lib.hid (HM9.out.setAt 3 (by simp) (.slice (some ⟨gg, 0, none⟩) (k * 4 + 3) cap)); have HS10 := Lib.hid (HS9.out.otherJ (w.heap.size + 1) 3 (by omega) (.slice (some ⟨gg, 0, none⟩) (k * 4 + 3) cap)); have HB10 := Lib.hid (HB9.out.setCell (p := ⟨w.heap.size + 1, 3, none⟩) (by simp) (.slice (some ⟨gg, 0, none⟩) (k * 4 + 3) cap)); have HO10 := Lib.hid ((own_kept HO9.out (grown_set _ (w.heap.size + 1) 3 (.slice (some ⟨gg, 0, none⟩) (k * 4 + 3) cap)) (by omega)).alloc (.cells #[.int .u8 255] 5)); have hba := (Below.refl (w9.setCell ⟨w.heap.size + 1, 3, none⟩ (.slice (some ⟨gg, 0, none⟩) (k * 4 + 3) cap)).heap.size (w9.setCell ⟨w.heap.size + 1, 3, none⟩ (.slice (some ⟨gg, 0, none⟩) (k * 4 + 3) cap))).alloc (Nat.le_refl _) (.cells #[.int .u8 255] 5); have HM11 := Lib.hid (HM10.out.below hba (by simpa using hz9)); have HS11 := Lib.hid (HS10.out.below hba (by simp; omega)); have HB11 := Lib.hid (HB10.out.alloc HB10.out.size (.cells #[.int .u8 255] 5)); have hnb := heap_alloc_new (w9.setCell ⟨w.heap.size + 1, 3, none⟩ (.slice (some ⟨gg, 0, none⟩) (k * 4 + 3) cap)) (.cells #[.int .u8 255] 5); have HN11 := Lib.hid hnb; clear hba hnb; clear hown9 hgr9 hne9 hat9) | (at_builtin; refine wpList_append_lies _ rfl (.tmp 64) (.tmp 65) _ rfl (w.heap.size + 2) 5 i0 _ 1 1 Try.underlying22 hi0 hz0 hzz1 hzz2 rfl (by decide) (.slice (some ⟨gg, 0, none⟩) (k * 4 + 3) cap) (k * 4 + 3) (Lib.byteCells (greyT 4 (v.take k)) ++ [.int .u8 (b.toNat : Int), .int .u8 (b.toNat : Int), .int .u8 (b.toNat : Int)]) rfl HO10.out ⟨w9.heap.size, 0, none⟩ 1 1 [.int .u8 255] rfl rfl (World.news_of_block (by rw [World.size_setCell] at HN11; exact HN11.out)) (by simp [Value.oneCell']) (by decide) (by unfold maxLen; omega) (by omega) (by simp; omega) _ rfl ?_; intro gh cap2 w12 hown12 hgr12 hat12 hlt12; have hne12 : some (w.heap.size + 1) ≠ (Value.slice (some ⟨gg, 0, none⟩) (k * 4 + 3) cap).ownBlock := (fun e => by have := (HO10.out.lt _ e.symm).1; omega); have hz11 : w.heap.size + 1 < ((w9.setCell ⟨w.heap.size + 1, 3, none⟩ (.slice (some ⟨gg, 0, none⟩) (k * 4 + 3) cap)).alloc (.cells #[.int .u8 255] 5)).heap.size := (by simp; omega); have HM12 := Lib.hid (slot_far HM11.out hgr12 hne12 hz11); have HS12 := Lib.hid (slot_far HS11.out hgr12 (fun e => by have := (HO10.out.lt _ e.symm).1; omega) (by omega)); have HB12 := Lib.hid (HB11.out.grown hgr12 HB11.out.size (fun j hj => by have := (HO10.out.lt _ hj).1; omega)); have HO12 := Lib.hid hown12; have m12 := HM12.out.c 3 _ rfl; have f12 := HM12.out.f 3; have hz12 : w.heap.size + 1 < w12.heap.size := Nat.lt_of_lt_of_le hz11 hgr12.size; clear hown12 hgr12 hne12 hat12))
                have HM13 := Lib.hid (HM12.out.setAt 3 (by simp) (.slice (some ⟨gh, 0, none⟩) (k * 4 + 3 + 1) cap2))
                have HS13 := Lib.hid (HS12.out.otherJ (w.heap.size + 1) 3 (by omega) (.slice (some ⟨gh, 0, none⟩) (k * 4 + 3 + 1) cap2))
                have HB13 := Lib.hid (HB12.out.setCell (p := ⟨w.heap.size + 1, 3, none⟩) (by simp) (.slice (some ⟨gh, 0, none⟩) (k * 4 + 3 + 1) cap2))
                have HO13 := Lib.hid (own_kept HO12.out (grown_set _ (w.heap.size + 1) 3 (.slice (some ⟨gh, 0, none⟩) (k * 4 + 3 + 1) cap2)) (by omega))
                have HE : Hid (Lib.byteCells (greyT 4 (v.take k)) ++ [.int .u8 (b.toNat : Int), .int .u8 (b.toNat : Int), .int .u8 (b.toNat : Int)] ++ [.int .u8 255] = Lib.byteCells (greyT 4 (v.take (k + 1)))) := Lib.hid (by
                  rw [HT.out]
                  unfold greyC
                  rw [HUB.out]
                  simp [Lib.byteCells])
                have hz13 : w.heap.size + 1 < (w12.setCell ⟨w.heap.size + 1, 3, none⟩ (.slice (some ⟨gh, 0, none⟩) (k * 4 + 3 + 1) cap2)).heap.size := by simpa using hz12
                clear HM8 HS8 HB8 HO8 HN8 m9 f9 HM9 HS9 HB9 HO9 hz9 hz8 m8 hx0 HM10 HS10 HB10 HO10 HM11 HS11 HB11 HN11 m12 f12 HM12 HS12 HB12 HO12 hz12
                go_roundw
                case rel => exact ⟨k + 1, some ⟨gh, 0, none⟩, cap2, by omega, by go_num, by rw [Nat.succ_mul]; exact HM13, by rw [Nat.succ_mul, ← HE.out]; exact HO13.out, HS13, HB13, hz13, HAN⟩
                case measure => simp only [intOf]; omega
            · have t3 : decide ((k : Int) < (n : Int)) = false := decide_eq_false (by omega)
              have t3n : decide (k < n) = false := decide_eq_false (by omega)
              obtain rfl : k = n := by omega
              have m0 := HM2.out.c 0 _ rfl
              have m1 := HM2.out.c 1 _ rfl
              have m2 := HM2.out.c 2 _ rfl
              have m3 := HM2.out.c 3 _ rfl
              have s0 := HS2.out.c 0 _ rfl
              have s1 := HS2.out.c 1 _ rfl
              have s2 := HS2.out.c 2 _ rfl
              have s3 := HS2.out.c 3 _ rfl
              have f0 := HS2.out.f 0
              have f1 := HS2.out.f 1
              have f2 := HS2.out.f 2
              have f3 := HS2.out.f 3
              have HR := Lib.hid ((((HS2.out.setAt 0 (by simp [zim]) (.int .i64 (q : Int))).setAt 1 (by simp [zim]) (.int .i64 hh)).setAt 2 (by simp [zim]) (.int .i64 32)).setAt 3 (by simp [zim]) (.slice A' (k * 4) c'))
              have HB3 := Lib.hid ((((HBr.out.setCell (p := ⟨w.heap.size, 0, none⟩) (Nat.le_refl _) (.int .i64 (q : Int))).setCell (p := ⟨w.heap.size, 1, none⟩) (Nat.le_refl _) (.int .i64 hh)).setCell (p := ⟨w.heap.size, 2, none⟩) (Nat.le_refl _) (.int .i64 32)).setCell (p := ⟨w.heap.size, 3, none⟩) (Nat.le_refl _) (.slice A' (k * 4) c'))
              have HO := Lib.hid (own_kept (own_kept (own_kept (own_kept hown (grown_set _ w.heap.size 0 (.int .i64 (q : Int))) (by omega)) (grown_set _ w.heap.size 1 (.int .i64 hh)) (by omega)) (grown_set _ w.heap.size 2 (.int .i64 32)) (by omega)) (grown_set _ w.heap.size 3 (.slice A' (k * 4) c')) (by omega))
              have HV : Hid (v.take k = v) := Lib.hid (List.take_of_length_le (by rw [hl.out]; exact Nat.le_refl _))
              have HOK : Hid (greyOk (q : Int) v 32 = true) := Lib.hid (greyOk_iff.2 ⟨HLV.out, by rw [hl.out]; exact h0, by have := hany.out; rwa [HV.out] at this, by omega⟩)
              clear hown HS2 HBr HM2
              go_wp2_with fail
              generalize World.setCell _ ⟨w.heap.size, 3, none⟩ (.slice A' (k * 4) c') = V at *
              clear s0 s1 s2 s3 f0 f1 f2 f3 m0 m1 m2 m3
              have e0 := HR.out.c 0 _ rfl
              have e1 := HR.out.c 1 _ rfl
              have e2 := HR.out.c 2 _ rfl
              have e3 := HR.out.c 3 _ rfl
              have HO' := HO.out
              rw [HV.out] at HO'
              have hcp := own_cap HO'
              exact bodyPost_ret (v := .tuple #[.agg #[.int .i64 (q : Int), .int .i64 hh, .int .i64 32, .slice A' (k * 4) c'], .int .i64 0]) (by simp [results, Try.results15, go_sem, e0, e1, e2, e3]) rfl (FYES.out A' (k * 4) c' 4 _ HOK.out rfl HB3.out ⟨Rd.of_own HO', by have := hcp.1; have := hcp.2; omega⟩ hcp.1 hcp.2)
        · have t1 : (b != 24) = true := by rw [bne_iff_ne]; exact h24
          have t2 : (b != 32) = true := by rw [bne_iff_ne]; exact h32
          have HNO := Lib.hid (HGN.out (fun h => by have := h.2.2.2; omega))
          clear hlv h24 h32
          have e0 := HS1.out.c 0 _ rfl
          have e1 := HS1.out.c 1 _ rfl
          have e2 := HS1.out.c 2 _ rfl
          have e3 := HS1.out.c 3 _ rfl
          go_enter Try.func15, Try.ntmps15
          go_wp2_with fail
          refine (KV.out _ HB1.out).mono ?_
          rintro e w1 ⟨rfl, hw1⟩; obtain rfl := hw1.symm
          clear KV
          go_wp2_with fail
          exact bodyPost_ret (v := .tuple #[zimV, .int .i64 1]) (by simp [results, Try.results15, go_sem, e0, e1, e2, e3, zimV]) rfl (FNO.out _ HNO.out HB1.out)
end Go.Proofs.Ytfkkppagbhllgaa

/-
  THE WALKS OF limewashref01.Same AND limewashref01.Own.
-/
set_option linter.unusedVariables false
set_option linter.unusedSimpArgs false
namespace Go.Proofs.Ytfkkppagbhllgaa
open Go.RowKit

def sameL (xs ys : List Int) : Bool := decide (xs = ys)

theorem sameI_any (B B' : Nat) (A A' : Option Addr) (n c m d : Nat) (xs ys : List Int) (w : World) (hx : Ints w B A n xs) (hy : Ints w B' A' m ys) :
    Calls Try.prog 24 #[.slice A n c, .slice A' m d] w fun e w' => e = .returned (.bool (sameL xs ys)) ∧ ∃ q, w' = w.drewN q := by
  have hn := hx.len
  have hm := hy.len
  have hl := Lib.hid hx.length
  have hl' := Lib.hid hy.length
  by_cases hnm : n = m
  · subst hnm
    have db : (n != n) = false := by simp
    go_enter Try.func24, Try.ntmps24
    go_wp2_with fail
    go_loopw [5] (fun i wr => ∃ k : Nat, k ≤ n ∧ i = .int .i64 k ∧ Hid (xs.take k = ys.take k) ∧ ∃ q, wr = w.drewN q) (fun i _ => n - (intOf i).toNat)
    case atStart => exact ⟨0, Nat.zero_le _, rfl, rfl, 0, rfl⟩
    case round =>
      obtain ⟨k, hk, rfl, htk, q, rfl⟩ := hrel
      by_cases hlt : k < n
      · obtain ⟨ad, x, rfl, hb, hkx, hmx, hc, hlo, hhi⟩ := hx.get hlt
        obtain ⟨ad', y, rfl, hb', hky, hmy, hc', hlo', hhi'⟩ := hy.get hlt
        have HX := Lib.hid hkx; clear hkx
        have HY := Lib.hid hky; clear hky
        by_cases hxy : x = y
        · subst hxy
          have d1 : (x != x) = false := by simp
          have hk0 : (0 : Int) ≤ (k : Int) := by omega
          have hkn : (k : Int) < (n : Int) := by omega
          go_wp2_with fail
          go_quiet (fail)
          go_wp2_with fail
          go_roundw
          case rel => exact ⟨k + 1, by omega, by go_num, Lib.hid (by rw [take_snoc' _ _ _ HX.out, take_snoc' _ _ _ HY.out, htk.out]), _, rfl⟩
          case measure => simp [intOf]; omega
        · have d1 : (x != y) = true := by simpa using hxy
          have hne : Hid (xs ≠ ys) := Lib.hid fun e => hxy (by have h1 := HX.out; rw [e, HY.out] at h1; exact (Option.some.inj h1).symm)
          clear hxy
          have hk0 : (0 : Int) ≤ (k : Int) := by omega
          have hkn : (k : Int) < (n : Int) := by omega
          go_wp2_with fail
          go_quiet (fail)
          go_wp2_with fail
          go_ret
          exact ⟨ret_bool (by simp [sameL, hne.out]), q + nq, by rw [World.drewN_drewN]⟩
      · go_wp2_with fail
        go_ret
        refine ⟨ret_bool ?_, q, rfl⟩
        have e := htk.out
        rw [List.take_of_length_le (by rw [hl.out]; omega), List.take_of_length_le (by rw [hl'.out]; omega)] at e
        simp [sameL, e]
  · have db : ((n : Int) != (m : Int)) = true := by simp; omega
    have hne : Hid (xs ≠ ys) := Lib.hid fun e => hnm (by rw [← hl.out, ← hl'.out, e])
    clear hnm
    go_enter Try.func24, Try.ntmps24
    go_wp2_with fail
    go_ret
    exact ⟨ret_bool (by simp [sameL, hne.out]), 0, rfl⟩

theorem sameI_b (B B' : Nat) (A A' : Option Addr) (n c m d : Nat) (xs ys : List Int) (w : World) (hx : Ints w B A n xs) (hy : Ints w B' A' m ys) :
    Calls Try.prog 24 #[.slice A n c, .slice A' m d] w fun e w' => e = .returned (.bool (sameL xs ys)) ∧ Below w.heap.size w w' :=
  (sameI_any B B' A A' n c m d xs ys w hx hy).mono fun _ _ ⟨he, q, hw⟩ => ⟨he, hw ▸ below_drewN (Below.refl _ _) q⟩
end Go.Proofs.Ytfkkppagbhllgaa

/-
  THE WALK OF limewashref01.Own.
-/
set_option linter.unusedVariables false
set_option linter.unusedSimpArgs false
namespace Go.Proofs.Ytfkkppagbhllgaa
open Go.RowKit

theorem own_ints_pos (A : Option Addr) (n c : Nat) (xs : List Int) (w : World) (h : Ints w w.heap.size A n xs) (hn : n ≤ 1000) (h0 : 0 < n) :
    Calls Try.prog 11 #[.slice A n c] w (LoneRes w 3 1 n (cellsI xs)) := by
  obtain ⟨i0, hi0, hz0, hz1, hz2⟩ := info_parts size_int'
  have hl := h.rd.1
  obtain ⟨ad, rfl, hb, hc⟩ := h.rd.2 (by omega)
  have hone := cellsI_one xs
  go_enter Try.func11, Try.ntmps11
  go_wp2_with (at_builtin; refine wpList_append_lies _ rfl (.tmp 4) (.tmp 5) _ rfl w.heap.size 3 i0 _ 1 8 Try.underlying25 hi0 hz0 hz1 hz2 rfl (by decide) _ 0 [] rfl (World.ownsRow_nil _ _ _ _) ad n c (cellsI xs) rfl hl hc hone h0 (by unfold maxLen; omega) (by omega) (Nat.le_refl _) _ rfl ?_; intro g4 cap4 w4 hown4 hgr4 hat4 hlt4)
  go_ret
  simp only [Nat.zero_add, List.nil_append] at hown4
  exact ⟨_, _, by simp, hown4, (Below.refl _ _).grown hgr4 (Nat.le_refl _) (fun k hk => by cases hk)⟩
theorem own_ints_nil (A : Option Addr) (c : Nat) (w : World) :
    Calls Try.prog 11 #[.slice A 0 c] w (LoneRes w 3 1 0 []) := by
  cases A with
  | none =>
    go_enter Try.func11, Try.ntmps11
    go_wp2_with fail
    go_ret
    exact ⟨none, 0, rfl, World.ownsRow_nil _ _ _ _, Below.refl _ _⟩
  | some ad =>
    go_enter Try.func11, Try.ntmps11
    go_wp2_with fail
    go_ret
    exact ⟨none, 0, rfl, World.ownsRow_nil _ _ _ _, Below.refl _ _⟩
theorem own_ints_any (A : Option Addr) (n c : Nat) (xs : List Int) (w : World) (h : Ints w w.heap.size A n xs) (hn : n ≤ 1000) :
    Calls Try.prog 11 #[.slice A n c] w (LoneRes w 3 1 n (cellsI xs)) := by
  rcases Nat.eq_zero_or_pos n with rfl | h0
  · obtain rfl := List.length_eq_zero_iff.1 h.length
    exact own_ints_nil A c w
  · exact own_ints_pos A n c xs w h hn h0
end Go.Proofs.Ytfkkppagbhllgaa

/-
  WHAT A LONG WALK KEEPS: some variables, some bytes and some ints in memory, carried together. Nothing of the program is named here.
-/
set_option linter.unusedVariables false
set_option linter.unusedSimpArgs false
namespace Go.Proofs.Ytfkkppagbhllgaa
open Go.RowKit

structure Keep (W : World) (sl : List (Nat × List Value)) (bs : List (Option Addr × Nat × List UInt8)) (is : List (Option Addr × Nat × List Int)) : Prop where
  s : ∀ x ∈ sl, SlotN W x.1 x.2 ∧ x.1 < W.heap.size
  b : ∀ x ∈ bs, Byts W W.heap.size x.1 x.2.1 x.2.2
  i : ∀ x ∈ is, Ints W W.heap.size x.1 x.2.1 x.2.2
section
variable {W W' : World} {sl : List (Nat × List Value)} {bs : List (Option Addr × Nat × List UInt8)} {is : List (Option Addr × Nat × List Int)}
theorem Keep.nil (W : World) : Keep W [] [] [] := ⟨by simp, by simp, by simp⟩
theorem Keep.grown (h : Keep W sl bs is) (hb : Below W.heap.size W W') : Keep W' sl bs is :=
  ⟨fun x hx => ⟨(h.s x hx).1.below hb (h.s x hx).2, Nat.lt_of_lt_of_le (h.s x hx).2 hb.size⟩, fun x hx => ((h.b x hx).below hb (Nat.le_refl _)).more hb.size, fun x hx => ((h.i x hx).below hb (Nat.le_refl _)).more hb.size⟩
theorem Keep.slot (h : Keep W sl bs is) (cs : List Value) (cs' : Array Value) (t : TypeId) (e : cs' = cs.toArray) : Keep (W.alloc (.cells cs' t)) ((W.heap.size, cs) :: sl) bs is := by
  have h2 := h.grown ((Below.refl W.heap.size W).alloc (Nat.le_refl _) (.cells cs' t))
  refine ⟨fun x hx => ?_, h2.b, h2.i⟩
  rcases List.mem_cons.1 hx with rfl | hx
  · exact ⟨SlotN.new W cs cs' t e, by simp⟩
  · exact h2.s x hx
theorem Keep.byts (h : Keep W sl bs is) {A : Option Addr} {n : Nat} {d : List UInt8} (hd : Byts W W.heap.size A n d) : Keep W sl ((A, n, d) :: bs) is :=
  ⟨h.s, fun x hx => by rcases List.mem_cons.1 hx with rfl | hx; exact hd; exact h.b x hx, h.i⟩
theorem Keep.ints (h : Keep W sl bs is) {A : Option Addr} {n : Nat} {d : List Int} (hd : Ints W W.heap.size A n d) : Keep W sl bs ((A, n, d) :: is) :=
  ⟨h.s, h.b, fun x hx => by rcases List.mem_cons.1 hx with rfl | hx; exact hd; exact h.i x hx⟩
theorem Keep.at (h : Keep W sl bs is) (k : Nat) {g : Nat} {cs : List Value} (hk : sl[k]? = some (g, cs)) : SlotN W g cs ∧ g < W.heap.size := h.s _ (List.mem_of_getElem? hk)
theorem Keep.atB (h : Keep W sl bs is) (k : Nat) {A : Option Addr} {n : Nat} {d : List UInt8} (hk : bs[k]? = some (A, n, d)) : Byts W W.heap.size A n d := h.b _ (List.mem_of_getElem? hk)
theorem Keep.atI (h : Keep W sl bs is) (k : Nat) {A : Option Addr} {n : Nat} {d : List Int} (hk : is[k]? = some (A, n, d)) : Ints W W.heap.size A n d := h.i _ (List.mem_of_getElem? hk)
end
end Go.Proofs.Ytfkkppagbhllgaa

/-
  THE LAW TgaDoes.
-/
set_option linter.unusedVariables false
set_option linter.unusedSimpArgs false
set_option maxRecDepth 100000
namespace Go.Proofs.Ytfkkppagbhllgaa
open Go.RowKit

/-- what Grey hands back, as numbers, bytes and an error's number -/
structure Gry where
  a : Int
  b : Int
  c : Int
  d : List UInt8
  e : Int
def gryT (ww : Int) (v : List Int) (bt : Int) : Gry := if greyOk ww v bt then ⟨ww, (v.length : Int) / ww, bt, greyT (bt / 8).toNat v, 0⟩ else ⟨0, 0, 0, [], 1⟩
def GryRes (g : Gry) (w : World) (e : Ending) (w' : World) : Prop := Below w.heap.size w w' ∧ ∃ A n c, e = .returned (.tuple #[imV g.a g.b g.c A n c, .int .i64 g.e]) ∧ Byts w' w'.heap.size A n g.d
theorem GreyRes.gry {ww : Int} {v : List Int} {bt : Int} {w w' : World} {e : Ending} (h : GreyRes ww v bt w e w') : GryRes (gryT ww v bt) w e w' := by
  obtain ⟨hb, h⟩ := h
  refine ⟨hb, ?_⟩
  unfold gryT
  rcases h with ⟨h, rfl⟩ | ⟨h, A, n, c, rfl, h1, _, _⟩
  · rw [h]
    exact ⟨none, 0, 0, rfl, ⟨Rd.nil, by omega⟩⟩
  · rw [h]
    exact ⟨A, n, c, rfl, h1⟩

set_option maxHeartbeats 1600000 in
theorem does_out (p q b : Int) (A : Option Addr) (n c : Nat) (d : List UInt8) (packed top : Bool) (ww : Int) (Av : Option Addr) (nv cv : Nat) (v : List Int) (bt : Int) (s : List UInt8) (z k : Int) (w : World)
    (hI : Byts w w.heap.size A n d) (hnc : n ≤ c) (hc : c ≤ 9223372036854775807) (hV : Ints w w.heap.size Av nv v) (bw : i64b ww) (bs : s.length ≤ 9223372036854775807) (bz : i64b z)
    (ho : 600 < n ∨ 80 < nv ∨ 1100 < s.length) :
    Calls Try.prog 3 #[imV p q b A n c, .bool packed, .bool top, .int .i64 ww, .slice Av nv cv, .int .i64 bt, .string ⟨s.toArray⟩, .int .i64 z, .int .i64 k] w fun e w' => e = .returned (.bool true) ∧ Below w.heap.size w w' := by
  have hb : Below w.heap.size w (w.alloc (.cells #[.int .i64 p, .int .i64 q, .int .i64 b, .slice A n c] 24)) := (Below.refl _ _).alloc (Nat.le_refl _) _
  have HM := Lib.hid (SlotN.new w [.int .i64 p, .int .i64 q, .int .i64 b, .slice A n c] #[.int .i64 p, .int .i64 q, .int .i64 b, .slice A n c] 24 rfl)
  have HB := Lib.hid hb
  have KB := Lib.hid (fun W => big_any p q b A n c W)
  unfold imV at KB ⊢
  have m0 := HM.out.c 0 _ rfl
  have m1 := HM.out.c 1 _ rfl
  have m2 := HM.out.c 2 _ rfl
  have m3 := HM.out.c 3 _ rfl
  clear hb hI hV
  by_cases h6 : 600 < n
  · rw [decide_eq_true (by omega)] at KB
    clear h6
    clear ho hnc hc bw bs bz
    go_enter Try.func3, Try.ntmps3
    go_wp2_with fail
    refine (KB.out _).mono ?_
    rintro e w2 ⟨rfl, hb2⟩
    have HB2 := Lib.hid (HB.out.trans (hb2.mono HB.out.size))
    clear hb2 m0 m1 m2 m3
    go_wp2_with fail
    go_ret
    exact ⟨rfl, HB2.out⟩
  rw [decide_eq_false (by omega)] at KB
  by_cases h8 : 80 < nv
  · have t8 : decide ((80 : Int) < (nv : Int)) = true := decide_eq_true (by omega)
    have t8n : decide (80 < nv) = true := decide_eq_true (by omega)
    clear h6 h8
    clear ho hnc hc bw bs bz
    go_enter Try.func3, Try.ntmps3
    go_wp2_with fail
    refine (KB.out _).mono ?_
    rintro e w2 ⟨rfl, hb2⟩
    have HB2 := Lib.hid (HB.out.trans (hb2.mono HB.out.size))
    clear hb2 m0 m1 m2 m3
    go_wp2_with fail
    go_ret
    exact ⟨rfl, HB2.out⟩
  · have t8 : decide ((80 : Int) < (nv : Int)) = false := decide_eq_false (by omega)
    have t8n : decide (80 < nv) = false := decide_eq_false (by omega)
    have t9 : decide ((1100 : Int) < (s.length : Int)) = true := decide_eq_true (by omega)
    have t9n : decide (1100 < s.length) = true := decide_eq_true (by omega)
    clear h6 h8
    clear ho hnc hc bw bs bz
    go_enter Try.func3, Try.ntmps3
    go_wp2_with fail
    refine (KB.out _).mono ?_
    rintro e w2 ⟨rfl, hb2⟩
    have HB2 := Lib.hid (HB.out.trans (hb2.mono HB.out.size))
    clear hb2 m0 m1 m2 m3
    go_wp2_with fail
    go_ret
    exact ⟨rfl, HB2.out⟩

set_option maxHeartbeats 6400000 in
theorem does_in (p q b : Int) (A : Option Addr) (n c : Nat) (d : List UInt8) (packed top : Bool) (ww : Int) (Av : Option Addr) (nv cv : Nat) (v : List Int) (bt : Int) (s : List UInt8) (z k : Int) (w : World)
    (hI : Byts w w.heap.size A n d) (hnc : n ≤ c) (hc : c ≤ 9223372036854775807) (hV : Ints w w.heap.size Av nv v) (bw : i64b ww) (bs : s.length ≤ 9223372036854775807) (bz : i64b z)
    (h6 : n ≤ 600) (h8 : nv ≤ 80) (h11 : s.length ≤ 1100) :
    Calls Try.prog 3 #[imV p q b A n c, .bool packed, .bool top, .int .i64 ww, .slice Av nv cv, .int .i64 bt, .string ⟨s.toArray⟩, .int .i64 z, .int .i64 k] w fun e w' => e = .returned (.bool true) ∧ Below w.heap.size w w' := by
  have HK0 := Lib.hid (((Keep.nil w).byts hI).ints hV)
  have HK1 := Lib.hid (HK0.out.slot [.int .i64 p, .int .i64 q, .int .i64 b, .slice A n c] #[.int .i64 p, .int .i64 q, .int .i64 b, .slice A n c] 24 rfl)
  have HB1 := Lib.hid ((Below.refl w.heap.size w).alloc (Nat.le_refl _) (.cells #[.int .i64 p, .int .i64 q, .int .i64 b, .slice A n c] 24))
  have hln := hI.length
  have HLN := Lib.hid hln
  have hnl := hI.len
  have HHC := Lib.hid (⟨hnc, hc, h6, h8, bw, hnl⟩ : _ ∧ _ ∧ _ ∧ _ ∧ _ ∧ _)
  have KB := Lib.hid (fun W => big_any p q b A n c W)
  rw [decide_eq_false (by omega)] at KB
  have t8 : decide ((80 : Int) < (nv : Int)) = false := decide_eq_false (by omega)
  have t8n : decide (80 < nv) = false := decide_eq_false (by omega)
  have t9 : decide ((1100 : Int) < (s.length : Int)) = false := decide_eq_false (by omega)
  have t9n : decide (1100 < s.length) = false := decide_eq_false (by omega)
  have K16 := Lib.hid (fun W => pack_any s z W (by omega) bz)
  have K17 := Lib.hid (fun W => packref_any s z W (by omega))
  have K18 := Lib.hid (fun W => unp_any s z k W (by omega))
  have K19 := Lib.hid (fun W => unref_any s z k W (by omega))
  have KP := Lib.hid (fun W (A' : Option Addr) (n' c' : Nat) (hy : Byts W W.heap.size A' n' d) (h1 : n' ≤ c') (h2 : c' ≤ 9223372036854775807) => put_any p q b A' n' c' d packed top W hy h1 h2)
  have KPR := Lib.hid (fun W (A' : Option Addr) (n' c' : Nat) (hy : Byts W W.heap.size A' n' d) (h1 : n' ≤ c') (h2 : c' ≤ 9223372036854775807) => putref_any p q b A' n' c' d packed top W hy h1 h2)
  have KG := Lib.hid (fun W (A' : Option Addr) (n' c' : Nat) (hy : Ints W W.heap.size A' n' v) (h1 : n' ≤ 1000) => (grey_any A' n' c' v ww bt W hy h1 bw).mono fun e W' h => h.gry)
  have KGR := Lib.hid (fun W (A' : Option Addr) (n' c' : Nat) (hy : Ints W W.heap.size A' n' v) (h1 : n' ≤ 1000) => (greyref_any A' n' c' v ww bt W hy h1 bw).mono fun e W' h => h.gry)
  have KO := Lib.hid (fun W (hy : Byts W W.heap.size A n d) => ownref_any p q b A n c d W hy (by omega))
  have KOI := Lib.hid (fun W (hy : Ints W W.heap.size Av nv v) => own_ints_any Av nv cv v W hy (by omega))
  have HI64 := Lib.hid hV.i64
  have HVL := Lib.hid hV.length
  obtain ⟨X, hX⟩ : ∃ X, X = (putR p q b d packed top).1 := ⟨_, rfl⟩
  obtain ⟨Xe, hXe⟩ : ∃ X, X = (putR p q b d packed top).2 := ⟨_, rfl⟩
  rw [← hX, ← hXe] at KP KPR
  obtain ⟨Y, hY⟩ : ∃ X, X = (packR s z).1 := ⟨_, rfl⟩
  obtain ⟨Ye, hYe⟩ : ∃ X, X = (packR s z).2 := ⟨_, rfl⟩
  rw [← hY, ← hYe] at K16 K17
  obtain ⟨U, hU⟩ : ∃ X, X = unR s z k := ⟨_, rfl⟩
  rw [← hU] at K18 K19
  obtain ⟨u1, u2, u3⟩ := U
  generalize gryT ww v bt = g at *
  obtain ⟨ga, gb, gc, gd, ge⟩ := g
  unfold GryRes at KG KGR
  unfold SE at KP KPR K16 K17
  unfold UnpRes strV at K18 K19
  unfold OwnIm at KO
  unfold LoneRes at KOI
  dsimp only at KG KGR K18 K19
  unfold imV at KB KP KPR KG KGR KO ⊢
  clear hI hV hnc hc bw bs bz hln hnl h6 h8 h11 hX hXe hY hYe hU
  have m0 := (HK1.out.at 0 rfl).1.c 0 _ rfl
  have m1 := (HK1.out.at 0 rfl).1.c 1 _ rfl
  have m2 := (HK1.out.at 0 rfl).1.c 2 _ rfl
  have m3 := (HK1.out.at 0 rfl).1.c 3 _ rfl
  go_enter Try.func3, Try.ntmps3
  go_wp2_with fail
  generalize w.alloc (.cells #[.int .i64 p, .int .i64 q, .int .i64 b, .slice A n c] 24) = W1 at *
  refine (KB.out _).mono ?_
  clear KB
  rintro e w2 ⟨rfl, hb⟩
  have HK2 := Lib.hid (HK1.out.grown hb)
  have HB2 := Lib.hid (HB1.out.trans (hb.mono HB1.out.size))
  clear HK1 HB1 hb m0 m1 m2 m3
  have m0 := (HK2.out.at 0 rfl).1.c 0 _ rfl
  have m1 := (HK2.out.at 0 rfl).1.c 1 _ rfl
  have m2 := (HK2.out.at 0 rfl).1.c 2 _ rfl
  have m3 := (HK2.out.at 0 rfl).1.c 3 _ rfl
  go_wp2_with fail
  refine (KO.out _ (HK2.out.atB 0 rfl)).mono ?_
  clear KO
  rintro e w3 ⟨hb, A1, n1, c1, rfl, hy, hn1, hc1⟩
  have HK3 := Lib.hid ((HK2.out.grown hb).byts hy)
  have HB3 := Lib.hid (HB2.out.trans (hb.mono HB2.out.size))
  have HNC := Lib.hid (⟨hn1, hc1⟩ : _ ∧ _)
  have hl1 := hy.length
  have e1 : n1 = n := by rw [← hl1, HLN.out]
  subst e1
  clear HK2 HB2 hb m0 m1 m2 m3 hy hn1 hc1 hl1
  have HK4 := Lib.hid (HK3.out.slot [.int .i64 p, .int .i64 q, .int .i64 b, .slice A1 n1 c1] #[.int .i64 p, .int .i64 q, .int .i64 b, .slice A1 n1 c1] 24 rfl)
  have HB4 := Lib.hid (HB3.out.alloc HB3.out.size (.cells #[.int .i64 p, .int .i64 q, .int .i64 b, .slice A1 n1 c1] 24))
  clear HK3 HB3
  go_wp2_with fail
  generalize w3.alloc (.cells #[.int .i64 p, .int .i64 q, .int .i64 b, .slice A1 n1 c1] 24) = W4 at *
  refine (KOI.out _ (HK4.out.atI 0 rfl)).mono ?_
  clear KOI
  rintro e w5 ⟨A2, c2, rfl, hown, hb⟩
  have HK5 := Lib.hid ((HK4.out.grown hb).ints (Ints.of_own hown HI64.out (by have := HHC.out.2.2.2.1; omega)))
  have HB5 := Lib.hid (HB4.out.trans (hb.mono HB4.out.size))
  clear HK4 HB4 hb hown
  have m0 := (HK5.out.at 1 rfl).1.c 0 _ rfl
  have m1 := (HK5.out.at 1 rfl).1.c 1 _ rfl
  have m2 := (HK5.out.at 1 rfl).1.c 2 _ rfl
  have m3 := (HK5.out.at 1 rfl).1.c 3 _ rfl
  go_wp2_with fail
  refine (KP.out _ A n1 c (HK5.out.atB 1 rfl) HHC.out.1 HHC.out.2.1).mono ?_
  clear KP
  rintro e w6 ⟨rfl, hb⟩
  have HK6 := Lib.hid (HK5.out.grown hb)
  have HB6 := Lib.hid (HB5.out.trans (hb.mono HB5.out.size))
  clear HK5 HB5 hb m0 m1 m2 m3
  have m0 := (HK6.out.at 0 rfl).1.c 0 _ rfl
  have m1 := (HK6.out.at 0 rfl).1.c 1 _ rfl
  have m2 := (HK6.out.at 0 rfl).1.c 2 _ rfl
  have m3 := (HK6.out.at 0 rfl).1.c 3 _ rfl
  go_wp2_with fail
  refine (KPR.out _ A1 n1 c1 (HK6.out.atB 0 rfl) HNC.out.1 HNC.out.2).mono ?_
  clear KPR
  rintro e w7 ⟨rfl, hb⟩
  have HK7 := Lib.hid (HK6.out.grown hb)
  have HB7 := Lib.hid (HB6.out.trans (hb.mono HB6.out.size))
  clear HK6 HB6 hb m0 m1 m2 m3
  go_wp2_with fail
  refine (KG.out _ Av nv cv (HK7.out.atI 1 rfl) (by have := HHC.out.2.2.2.1; omega)).mono ?_
  clear KG
  rintro e w8 ⟨hb, A3, n3, c3, rfl, hy⟩
  have HK8 := Lib.hid (((HK7.out.grown hb).byts hy).slot [.int .i64 ga, .int .i64 gb, .int .i64 gc, .slice A3 n3 c3] #[.int .i64 ga, .int .i64 gb, .int .i64 gc, .slice A3 n3 c3] 24 rfl)
  have hb7 := HB7.out.trans (hb.mono HB7.out.size)
  have HB8 := Lib.hid (hb7.alloc hb7.size (.cells #[.int .i64 ga, .int .i64 gb, .int .i64 gc, .slice A3 n3 c3] 24))
  clear HK7 HB7 hb hb7 hy
  go_wp2_with fail
  generalize w8.alloc (.cells #[.int .i64 ga, .int .i64 gb, .int .i64 gc, .slice A3 n3 c3] 24) = W8 at *
  refine (KGR.out _ A2 nv c2 (HK8.out.atI 0 rfl) (by have := HHC.out.2.2.2.1; omega)).mono ?_
  clear KGR
  rintro e w9 ⟨hb, A4, n4, c4, rfl, hy⟩
  have HK9 := Lib.hid (((HK8.out.grown hb).byts hy).slot [.int .i64 ga, .int .i64 gb, .int .i64 gc, .slice A4 n4 c4] #[.int .i64 ga, .int .i64 gb, .int .i64 gc, .slice A4 n4 c4] 24 rfl)
  have hb7 := HB8.out.trans (hb.mono HB8.out.size)
  have HB9 := Lib.hid (hb7.alloc hb7.size (.cells #[.int .i64 ga, .int .i64 gb, .int .i64 gc, .slice A4 n4 c4] 24))
  clear HK8 HB8 hb hb7 hy
  go_wp2_with fail
  generalize w9.alloc (.cells #[.int .i64 ga, .int .i64 gb, .int .i64 gc, .slice A4 n4 c4] 24) = W9 at *
  refine (K16.out _).mono ?_
  clear K16
  rintro e w10 ⟨rfl, hb⟩
  have HK10 := Lib.hid (HK9.out.grown hb)
  have HB10 := Lib.hid (HB9.out.trans (hb.mono HB9.out.size))
  clear HK9 HB9 hb
  go_wp2_with fail
  refine (K17.out _).mono ?_
  clear K17
  rintro e w11 ⟨rfl, hb⟩
  have HK11 := Lib.hid (HK10.out.grown hb)
  have HB11 := Lib.hid (HB10.out.trans (hb.mono HB10.out.size))
  clear HK10 HB10 hb
  go_wp2_with fail
  refine (K18.out _).mono ?_
  clear K18
  rintro e w12 ⟨rfl, hb⟩
  have HK12 := Lib.hid (HK11.out.grown hb)
  have HB12 := Lib.hid (HB11.out.trans (hb.mono HB11.out.size))
  clear HK11 HB11 hb
  go_wp2_with fail
  refine (K19.out _).mono ?_
  clear K19
  rintro e w13 ⟨rfl, hb⟩
  have HK13 := Lib.hid (HK12.out.grown hb)
  have HB13 := Lib.hid (HB12.out.trans (hb.mono HB12.out.size))
  clear HB12 hb
  go_wp2_with fail
  clear HK12
  have ks1 := fun W (hb : Below w13.heap.size w13 W) => same_im W.heap.size ga gb gc A3 n3 c3 gd ga gb gc A4 n4 c4 gd W ((HK13.out.grown hb).atB 1 rfl) ((HK13.out.grown hb).atB 0 rfl) (Nat.le_refl _)
  simp only [BEq.rfl, Bool.and_self] at ks1
  have KS1 := Lib.hid ks1
  have ks2 := fun W (hb : Below w13.heap.size w13 W) => same_im W.heap.size p q b A n1 c d p q b A1 n1 c1 d W ((HK13.out.grown hb).atB 3 rfl) ((HK13.out.grown hb).atB 2 rfl) (Nat.le_refl _)
  simp only [BEq.rfl, Bool.and_self] at ks2
  have KS2 := Lib.hid ks2
  have KSI := Lib.hid (fun W (hb : Below w13.heap.size w13 W) => sameI_b W.heap.size W.heap.size Av A2 nv cv nv c2 v v W ((HK13.out.grown hb).atI 1 rfl) ((HK13.out.grown hb).atI 0 rfl))
  have hsv : sameL v v = true := by unfold sameL; simp
  rw [hsv] at KSI
  have KIS := Lib.hid (fun W (hb : Below w13.heap.size w13 W) => is_any p q b A n1 c W HHC.out.2.2.2.2.2)
  have KIR := Lib.hid (fun W (hb : Below w13.heap.size w13 W) => isref_any p q b A1 n1 c1 W HHC.out.2.2.2.2.2)
  generalize isT p q b n1 = tt at *
  have KPC := Lib.hid pictured_any
  unfold imV at KS1 KS2 KIS KIR
  clear ks1 ks2 hsv
  have g0 := (HK13.out.at 0 rfl).1.c 0 _ rfl
  have g1 := (HK13.out.at 0 rfl).1.c 1 _ rfl
  have g2 := (HK13.out.at 0 rfl).1.c 2 _ rfl
  have g3 := (HK13.out.at 0 rfl).1.c 3 _ rfl
  have h0 := (HK13.out.at 1 rfl).1.c 0 _ rfl
  have h1 := (HK13.out.at 1 rfl).1.c 1 _ rfl
  have h2 := (HK13.out.at 1 rfl).1.c 2 _ rfl
  have h3 := (HK13.out.at 1 rfl).1.c 3 _ rfl
  have o0 := (HK13.out.at 2 rfl).1.c 0 _ rfl
  have o1 := (HK13.out.at 2 rfl).1.c 1 _ rfl
  have o2 := (HK13.out.at 2 rfl).1.c 2 _ rfl
  have o3 := (HK13.out.at 2 rfl).1.c 3 _ rfl
  have m0 := (HK13.out.at 3 rfl).1.c 0 _ rfl
  have m1 := (HK13.out.at 3 rfl).1.c 1 _ rfl
  have m2 := (HK13.out.at 3 rfl).1.c 2 _ rfl
  have m3 := (HK13.out.at 3 rfl).1.c 3 _ rfl
  have z0 : w9.heap.size < w13.heap.size := (HK13.out.at 0 rfl).2
  have z1 : w8.heap.size < w13.heap.size := (HK13.out.at 1 rfl).2
  have z2 : w3.heap.size < w13.heap.size := (HK13.out.at 2 rfl).2
  have z3 : w.heap.size < w13.heap.size := (HK13.out.at 3 rfl).2
  have HKZ := Lib.hid HK13.out
  clear HK13
  go_region_held3 (fun w' => w'.cell? ⟨w9.heap.size, 0, none⟩ = some (.int .i64 ga) ∧ w'.cell? ⟨w9.heap.size, 1, none⟩ = some (.int .i64 gb) ∧ w'.cell? ⟨w9.heap.size, 2, none⟩ = some (.int .i64 gc) ∧ w'.cell? ⟨w9.heap.size, 3, none⟩ = some (.slice A4 n4 c4) ∧ w'.cell? ⟨w8.heap.size, 0, none⟩ = some (.int .i64 ga) ∧ w'.cell? ⟨w8.heap.size, 1, none⟩ = some (.int .i64 gb) ∧ w'.cell? ⟨w8.heap.size, 2, none⟩ = some (.int .i64 gc) ∧ w'.cell? ⟨w8.heap.size, 3, none⟩ = some (.slice A3 n3 c3) ∧ w'.cell? ⟨w3.heap.size, 0, none⟩ = some (.int .i64 p) ∧ w'.cell? ⟨w3.heap.size, 1, none⟩ = some (.int .i64 q) ∧ w'.cell? ⟨w3.heap.size, 2, none⟩ = some (.int .i64 b) ∧ w'.cell? ⟨w3.heap.size, 3, none⟩ = some (.slice A1 n1 c1) ∧ w'.cell? ⟨w.heap.size, 0, none⟩ = some (.int .i64 p) ∧ w'.cell? ⟨w.heap.size, 1, none⟩ = some (.int .i64 q) ∧ w'.cell? ⟨w.heap.size, 2, none⟩ = some (.int .i64 b) ∧ w'.cell? ⟨w.heap.size, 3, none⟩ = some (.slice A n1 c))
    (refine ⟨?_, ?_, ?_, ?_, ?_, ?_, ?_, ?_, ?_, ?_, ?_, ?_, ?_, ?_, ?_, ?_⟩ <;> (first | with_reducible assumption | (rw [hby.cell (by (try dsimp only); omega)]; with_reducible assumption) | (go_keep; done)))
    (first
      | (go_at_call 20; refine (KPC.out _).mono ?_; rintro e wx ⟨rfl, hbx⟩; have hby : Below w13.heap.size w13 wx := (Below.refl _ w13).drew.trans (hbx.mono (by simp)))
      | (go_at_call_of 21 (Value.agg #[.int .i64 ga, .int .i64 gb, .int .i64 gc, .slice A3 n3 c3]); refine (KS1.out _ hby).mono ?_; rintro e wx ⟨rfl, hbx⟩; have hby : Below w13.heap.size w13 wx := hby.trans (hbx.mono hby.size))
      | (go_at_call 22; refine (KIS.out _ hby).mono ?_; rintro e wx ⟨rfl, hbx⟩; have hby : Below w13.heap.size w13 wx := hby.trans (hbx.mono hby.size))
      | (go_at_call 23; refine (KIR.out _ hby).mono ?_; rintro e wx ⟨rfl, hbx⟩; have hby : Below w13.heap.size w13 wx := hby.trans (hbx.mono hby.size))
      | (go_at_call_of 21 (Value.agg #[.int .i64 p, .int .i64 q, .int .i64 b, .slice A n1 c]); refine (KS2.out _ hby).mono ?_; rintro e wx ⟨rfl, hbx⟩; have hby : Below w13.heap.size w13 wx := hby.trans (hbx.mono hby.size))
      | (go_at_call 24; refine (KSI.out _ hby).mono ?_; rintro e wx ⟨rfl, hbx⟩; have hby : Below w13.heap.size w13 wx := hby.trans (hbx.mono hby.size)))
  all_goals
    have HF := Lib.hid (HB13.out.trans (hby.mono HB13.out.size))
    clear hby
    go_wp2_with fail
    go_ret
    exact ⟨ret_bool (by simp), HF.out⟩

theorem does_row (p q b : Int) (A : Option Addr) (n c : Nat) (d : List UInt8) (packed top : Bool) (ww : Int) (Av : Option Addr) (nv cv : Nat) (v : List Int) (bt : Int) (s : List UInt8) (z k : Int) (w : World)
    (hI : Byts w w.heap.size A n d) (hnc : n ≤ c) (hc : c ≤ 9223372036854775807) (hV : Ints w w.heap.size Av nv v) (bw : i64b ww) (bs : s.length ≤ 9223372036854775807) (bz : i64b z) :
    Calls Try.prog 3 #[imV p q b A n c, .bool packed, .bool top, .int .i64 ww, .slice Av nv cv, .int .i64 bt, .string ⟨s.toArray⟩, .int .i64 z, .int .i64 k] w fun e w' => e = .returned (.bool true) ∧ Below w.heap.size w w' := by
  by_cases h : n ≤ 600 ∧ nv ≤ 80 ∧ s.length ≤ 1100
  · exact does_in p q b A n c d packed top ww Av nv cv v bt s z k w hI hnc hc hV bw bs bz h.1 h.2.1 h.2.2
  · exact does_out p q b A n c d packed top ww Av nv cv v bt s z k w hI hnc hc hV bw bs bz (by omega)
end Go.Proofs.Ytfkkppagbhllgaa
