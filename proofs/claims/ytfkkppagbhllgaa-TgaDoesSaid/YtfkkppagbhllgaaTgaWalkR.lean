/-
  THE WALK OF tga.Grey.
-/
import Derived.Test.YtfkkppagbhllgaaTgaG
import Derived.Test.YtfkkppagbhllgaaTgaWalkM
import Derived.Test.YtfkkppagbhllgaaLevT
import Derived.Test.YtfkkppagbhllgaaContE
set_option linter.unusedVariables false
set_option linter.unusedSimpArgs false
set_option maxRecDepth 100000
namespace Go.Proofs.Ytfkkppagbhllgaa
open Go.RowKit

/-- what Grey hands back -/
def GreyRes (ww : Int) (v : List Int) (b : Int) (w : World) (e : Ending) (w' : World) : Prop :=
  Below w.heap.size w w' ∧ ((greyOk ww v b = false ∧ e = .returned (.tuple #[zimV, .int .i64 1])) ∨
    (greyOk ww v b = true ∧ ∃ A n c, e = .returned (.tuple #[imV ww ((v.length : Int) / ww) b A n c, .int .i64 0]) ∧ Byts w' w'.heap.size A n (greyT (b / 8).toNat v) ∧ n ≤ c ∧ c ≤ 9223372036854775807))
def zimC : Array Value := #[.int .i64 0, .int .i64 0, .int .i64 0, .slice none 0 0]

set_option maxHeartbeats 800000 in
theorem grey_no (A : Option Addr) (n c : Nat) (v : List Int) (ww b : Int) (w : World) (hI : Ints w w.heap.size A n v) (hn : n ≤ 1000) (bw : i64b ww) (h : greyOk ww v b = false) :
    Calls Try.prog 14 #[.int .i64 ww, .slice A n c, .int .i64 b] w (GreyRes ww v b w) := by
  have FIN : Hid (∀ W, Below w.heap.size w W → GreyRes ww v b w (.returned (.tuple #[zimV, .int .i64 1])) W) := Lib.hid fun W hW => ⟨hW, .inl ⟨h, rfl⟩⟩
  have HNO : Hid (¬ (levelOk ww v = true ∧ 0 < v.length ∧ v.any ((-1 : Int) == ·) = false ∧ (b = 24 ∨ b = 32))) := Lib.hid (fun hh => by rw [greyOk_iff.2 hh] at h; cases h)
  have hl := Lib.hid hI.length
  generalize hQ : GreyRes ww v b w = Qp at FIN ⊢
  clear hQ h
  have hB1 : Below w.heap.size w (w.alloc (.cells zimC 24)) := (Below.refl _ _).alloc (Nat.le_refl _) _
  have hs1 := SlotN.new w zim zimC 24 rfl
  have hI1 := (hI.below hB1 (Nat.le_refl _)).more hB1.size
  have KL := Lib.hid (level_any A n c v ww (w.alloc (.cells zimC 24)) hI1 hn bw)
  have KC := Lib.hid (fun W (hW : Below w.heap.size w W) => containsE_any w.heap.size (-1) A n c v W (hI.below hW (Nat.le_refl _)))
  have HS1 := Lib.hid hs1
  have HB1 := Lib.hid hB1
  have hz1 : w.heap.size < (w.alloc (.cells zimC 24)).heap.size := by simp
  have HZ1 := Lib.hid hz1
  clear hI hI1 hs1 hB1 bw hz1
  unfold zimC at *
  unfold LevelRes at KL
  have hn0 : Hid (n = 0 ∨ 0 < n) := Lib.hid (by omega)
  cases hlv : levelOk ww v with
  | false =>
    rw [hlv] at KL
    clear KC HNO
    clear hlv
    go_enter Try.func14, Try.ntmps14
    go_wp2_with fail
    refine KL.out.mono ?_
    rintro e w1 ⟨A1, n1, c1, rfl, hb1⟩
    have hs := HS1.out.below hb1 HZ1.out
    have HB := Lib.hid (HB1.out.trans (hb1.mono (Nat.le_of_lt HZ1.out)))
    clear hb1 KL HS1 HB1

    have c0 := hs.c 0 _ rfl
    have c1' := hs.c 1 _ rfl
    have c2 := hs.c 2 _ rfl
    have c3 := hs.c 3 _ rfl
    have f0 := hs.f 0
    have f1 := hs.f 1
    have f2 := hs.f 2
    have f3 := hs.f 3
    have hs2 := Lib.hid ((((hs.setAt 0 (by simp [zim]) (.int .i64 0)).setAt 1 (by simp [zim]) (.int .i64 0)).setAt 2 (by simp [zim]) (.int .i64 0)).setAt 3 (by simp [zim]) (.slice none 0 0))
    have HB2 := Lib.hid ((((HB.out.setCell (p := ⟨w.heap.size, 0, none⟩) (Nat.le_refl _) (.int .i64 0)).setCell (p := ⟨w.heap.size, 1, none⟩) (Nat.le_refl _) (.int .i64 0)).setCell (p := ⟨w.heap.size, 2, none⟩) (Nat.le_refl _) (.int .i64 0)).setCell (p := ⟨w.heap.size, 3, none⟩) (Nat.le_refl _) (.slice none 0 0))
    clear hs
    go_wp2_with fail
    generalize World.setCell _ ⟨w.heap.size, 3, none⟩ (.slice none 0 0) = V at *
    clear c0 c1' c2 c3 f0 f1 f2 f3
    have e0 := hs2.out.c 0 _ rfl
    have e1 := hs2.out.c 1 _ rfl
    have e2 := hs2.out.c 2 _ rfl
    have e3 := hs2.out.c 3 _ rfl
    exact bodyPost_ret (v := .tuple #[zimV, .int .i64 1]) (by simp [results, Try.results14, go_sem, e0, e1, e2, e3, zimV]) rfl (FIN.out _ HB2.out)
  | true =>
    rw [hlv] at KL
    rcases Nat.eq_zero_or_pos n with rfl | h0
    · clear KC HNO
      clear hlv
      go_enter Try.func14, Try.ntmps14
      go_wp2_with fail
      refine KL.out.mono ?_
      rintro e w1 ⟨A1, n1, c1, rfl, hb1⟩
      have hs := HS1.out.below hb1 HZ1.out
      have HB := Lib.hid (HB1.out.trans (hb1.mono (Nat.le_of_lt HZ1.out)))
      clear hb1 KL HS1 HB1

      have c0 := hs.c 0 _ rfl
      have c1' := hs.c 1 _ rfl
      have c2 := hs.c 2 _ rfl
      have c3 := hs.c 3 _ rfl
      have f0 := hs.f 0
      have f1 := hs.f 1
      have f2 := hs.f 2
      have f3 := hs.f 3
      have hs2 := Lib.hid ((((hs.setAt 0 (by simp [zim]) (.int .i64 0)).setAt 1 (by simp [zim]) (.int .i64 0)).setAt 2 (by simp [zim]) (.int .i64 0)).setAt 3 (by simp [zim]) (.slice none 0 0))
      have HB2 := Lib.hid ((((HB.out.setCell (p := ⟨w.heap.size, 0, none⟩) (Nat.le_refl _) (.int .i64 0)).setCell (p := ⟨w.heap.size, 1, none⟩) (Nat.le_refl _) (.int .i64 0)).setCell (p := ⟨w.heap.size, 2, none⟩) (Nat.le_refl _) (.int .i64 0)).setCell (p := ⟨w.heap.size, 3, none⟩) (Nat.le_refl _) (.slice none 0 0))
      clear hs
      go_wp2_with fail
      generalize World.setCell _ ⟨w.heap.size, 3, none⟩ (.slice none 0 0) = V at *
      clear c0 c1' c2 c3 f0 f1 f2 f3
      have e0 := hs2.out.c 0 _ rfl
      have e1 := hs2.out.c 1 _ rfl
      have e2 := hs2.out.c 2 _ rfl
      have e3 := hs2.out.c 3 _ rfl
      exact bodyPost_ret (v := .tuple #[zimV, .int .i64 1]) (by simp [results, Try.results14, go_sem, e0, e1, e2, e3, zimV]) rfl (FIN.out _ HB2.out)
    · have t0 : ((n : Int) == 0) = false := by rw [beq_eq_false_iff_ne]; omega
      cases hany : v.any ((-1 : Int) == ·) with
      | true =>
        rw [hany] at KC
        clear HNO hany
        clear hlv
        go_enter Try.func14, Try.ntmps14
        go_wp2_with fail
        refine KL.out.mono ?_
        rintro e w1 ⟨A1, n1, c1, rfl, hb1⟩
        have hs := HS1.out.below hb1 HZ1.out
        have HB := Lib.hid (HB1.out.trans (hb1.mono (Nat.le_of_lt HZ1.out)))
        clear hb1 KL HS1 HB1
        go_wp2_with fail
        refine (KC.out _ HB.out).mono ?_
        rintro e w2 ⟨rfl, rfl⟩
        clear KC
        have c0 := hs.c 0 _ rfl
        have c1' := hs.c 1 _ rfl
        have c2 := hs.c 2 _ rfl
        have c3 := hs.c 3 _ rfl
        have f0 := hs.f 0
        have f1 := hs.f 1
        have f2 := hs.f 2
        have f3 := hs.f 3
        have hs2 := Lib.hid ((((hs.setAt 0 (by simp [zim]) (.int .i64 0)).setAt 1 (by simp [zim]) (.int .i64 0)).setAt 2 (by simp [zim]) (.int .i64 0)).setAt 3 (by simp [zim]) (.slice none 0 0))
        have HB2 := Lib.hid ((((HB.out.setCell (p := ⟨w.heap.size, 0, none⟩) (Nat.le_refl _) (.int .i64 0)).setCell (p := ⟨w.heap.size, 1, none⟩) (Nat.le_refl _) (.int .i64 0)).setCell (p := ⟨w.heap.size, 2, none⟩) (Nat.le_refl _) (.int .i64 0)).setCell (p := ⟨w.heap.size, 3, none⟩) (Nat.le_refl _) (.slice none 0 0))
        clear hs
        go_wp2_with fail
        generalize World.setCell _ ⟨w.heap.size, 3, none⟩ (.slice none 0 0) = V at *
        clear c0 c1' c2 c3 f0 f1 f2 f3
        have e0 := hs2.out.c 0 _ rfl
        have e1 := hs2.out.c 1 _ rfl
        have e2 := hs2.out.c 2 _ rfl
        have e3 := hs2.out.c 3 _ rfl
        exact bodyPost_ret (v := .tuple #[zimV, .int .i64 1]) (by simp [results, Try.results14, go_sem, e0, e1, e2, e3, zimV]) rfl (FIN.out _ HB2.out)
      | false =>
        have t1 : (b != 24) = true := by
          rw [bne_iff_ne]; intro e; exact HNO.out ⟨hlv, by rw [hl.out]; exact h0, hany, .inl e⟩
        have t2 : (b != 32) = true := by
          rw [bne_iff_ne]; intro e; exact HNO.out ⟨hlv, by rw [hl.out]; exact h0, hany, .inr e⟩
        rw [hany] at KC
        clear HNO hany
        clear hlv
        go_enter Try.func14, Try.ntmps14
        go_wp2_with fail
        refine KL.out.mono ?_
        rintro e w1 ⟨A1, n1, c1, rfl, hb1⟩
        have hs := HS1.out.below hb1 HZ1.out
        have HB := Lib.hid (HB1.out.trans (hb1.mono (Nat.le_of_lt HZ1.out)))
        clear hb1 KL HS1 HB1
        go_wp2_with fail
        refine (KC.out _ HB.out).mono ?_
        rintro e w2 ⟨rfl, rfl⟩
        clear KC
        have c0 := hs.c 0 _ rfl
        have c1' := hs.c 1 _ rfl
        have c2 := hs.c 2 _ rfl
        have c3 := hs.c 3 _ rfl
        have f0 := hs.f 0
        have f1 := hs.f 1
        have f2 := hs.f 2
        have f3 := hs.f 3
        have hs2 := Lib.hid ((((hs.setAt 0 (by simp [zim]) (.int .i64 0)).setAt 1 (by simp [zim]) (.int .i64 0)).setAt 2 (by simp [zim]) (.int .i64 0)).setAt 3 (by simp [zim]) (.slice none 0 0))
        have HB2 := Lib.hid ((((HB.out.setCell (p := ⟨w.heap.size, 0, none⟩) (Nat.le_refl _) (.int .i64 0)).setCell (p := ⟨w.heap.size, 1, none⟩) (Nat.le_refl _) (.int .i64 0)).setCell (p := ⟨w.heap.size, 2, none⟩) (Nat.le_refl _) (.int .i64 0)).setCell (p := ⟨w.heap.size, 3, none⟩) (Nat.le_refl _) (.slice none 0 0))
        clear hs
        go_wp2_with fail
        generalize World.setCell _ ⟨w.heap.size, 3, none⟩ (.slice none 0 0) = V at *
        clear c0 c1' c2 c3 f0 f1 f2 f3
        have e0 := hs2.out.c 0 _ rfl
        have e1 := hs2.out.c 1 _ rfl
        have e2 := hs2.out.c 2 _ rfl
        have e3 := hs2.out.c 3 _ rfl
        exact bodyPost_ret (v := .tuple #[zimV, .int .i64 1]) (by simp [results, Try.results14, go_sem, e0, e1, e2, e3, zimV]) rfl (FIN.out _ HB2.out)
/- Grey: memory in its loop -/
/-- a variable lies apart from the row that is appended to -/
theorem slot_far {W W' : World} {g : Nat} {cs : List Value} {row : Option Nat} (h : SlotN W g cs) (hg : W.grownBy W' row) (hne : some g ≠ row) (hlt : g < W.heap.size) : SlotN W' g cs :=
  ⟨fun j u hj => (hg.cell_far ⟨g, j, none⟩ hlt hne).trans (h.c j u hj), fun j => (hg.frozen_far ⟨g, j, none⟩ hlt hne).trans (h.f j)⟩
theorem grown_set (W : World) (g j : Nat) (u : Value) : W.grownBy (W.setCell ⟨g, j, none⟩ u) (some g) :=
  ⟨rfl, rfl, rfl, by simp, fun k hk hne => by rw [Below.heap_setCell _ _ _ _ (fun e => hne (by rw [e]))]⟩
theorem own_cap {w : World} {base : Nat} {e : TypeId} {A : Option Addr} {n c : Nat} {xs : List Value} (h : w.ownsRow base e 1 (.slice A n c) n xs) : n ≤ c ∧ c ≤ 9223372036854775807 := by
  rcases h.2 with ⟨hv, h0⟩ | ⟨g, cap, cur, hv, _, _, h1, h2, _⟩
  · injection hv with _ _ h3; omega
  · injection hv with _ _ h3
    unfold maxLen at h2
    omega
theorem bytes_cons (b : UInt8) (l : List UInt8) : Lib.byteCells (b :: l) = Value.int .u8 (b.toNat : Int) :: Lib.byteCells l := rfl
theorem slice_head (ad : Addr) (n c k : Nat) (b : Int) (hb : b = ((k : Nat) : Int)) (hk : 0 < k) (h : k ≤ c) (W : World) :
    (Instr.slice 22 (.slice (some ad) n c) none (some (.int .i64 b)) none).run Try.prog W = .ok (.slice (some ad) k c) W := by
  subst hb
  rw [run_slice_h W 22 (some ad) n c (by kernel_rfl) .i64 _ (by omega) (by omega)]
  rw [show Try.prog.elem 22 = 5 from by kernel_rfl, Try.sizeOf5]
  simp only [Result.andThen, sliced]
  rw [if_neg (by omega)]
  simp [show ad.add 0 = ad from rfl]

set_option maxHeartbeats 1600000 in
theorem grey_yes (A : Option Addr) (n c q z : Nat) (v : List Int) (b : Int) (w : World) (hI : Ints w w.heap.size A n v) (hn : n ≤ 1000) (hz : (b = 24 ∧ z = 3) ∨ (b = 32 ∧ z = 4)) (h : greyOk q v b = true) :
    Calls Try.prog 14 #[.int .i64 q, .slice A n c, .int .i64 b] w (GreyRes q v b w) := by
  obtain ⟨g1, g2, g3, g4⟩ := greyOk_iff.1 h
  obtain ⟨q1, q2, q3, q4, q5⟩ := levelOk_iff.1 g1
  have hz8 : (b / 8).toNat = z := by omega
  have FIN : Hid (∀ A' n' c' W, Below w.heap.size w W → Byts W W.heap.size A' n' (greyT z v) → n' ≤ c' → c' ≤ 9223372036854775807 → GreyRes q v b w (.returned (.tuple #[imV q ((n / q : Nat) : Int) b A' n' c', .int .i64 0])) W) := Lib.hid fun A' n' c' W hW h1 h2 h3 => by
    refine ⟨hW, .inr ⟨h, A', n', c', ?_, by rw [hz8]; exact h1, h2, h3⟩⟩
    rw [hI.length]; rfl
  generalize hQ : GreyRes q v b w = Qp at FIN ⊢
  clear hQ h
  have hl := Lib.hid hI.length
  have h0 : 0 < n := by rw [← hl.out]; exact g2
  have hB1 : Below w.heap.size w (w.alloc (.cells zimC 24)) := (Below.refl _ _).alloc (Nat.le_refl _) _
  have hs1 := SlotN.new w zim zimC 24 rfl
  have hI1 := (hI.below hB1 (Nat.le_refl _)).more hB1.size
  have KL := Lib.hid (level_any A n c v q (w.alloc (.cells zimC 24)) hI1 hn (by unfold i64b; omega))
  have KC := Lib.hid (fun W (hW : Below w.heap.size w W) => containsE_any w.heap.size (-1) A n c v W (hI.below hW (Nat.le_refl _)))
  have HS1 := Lib.hid hs1
  have HB1 := Lib.hid hB1
  have hz1 : w.heap.size < (w.alloc (.cells zimC 24)).heap.size := by simp
  have HZ1 := Lib.hid hz1
  have HI := Lib.hid hI
  unfold LevelRes at KL
  rw [g1] at KL
  rw [g3] at KC
  have HG := Lib.hid (fun x (hx : x ∈ v) => grey_byte (q5 x hx) (fun e => by
    rw [List.any_eq_false] at g3
    exact g3 x hx (by rw [e]; rfl)))
  have t0 : ((n : Int) == 0) = false := by rw [beq_eq_false_iff_ne]; omega
  have td : Int.tdiv (n : Int) (q : Int) = ((n / q : Nat) : Int) := by rw [Int.tdiv_eq_ediv_of_nonneg (by omega)]; rfl
  have q0 : (q : Int) ≠ 0 := by omega
  have hdv : n / q ≤ 1000 := Nat.le_trans (Nat.div_le_self _ _) hn
  generalize n / q = hh at *
  have wd : IntKind.i64.wrap (hh : Int) = (hh : Int) := by rw [IntKind.wrap_i64]; omega
  clear hI hI1 hs1 hB1 hz1 g1 g2 g3 g4 q1 q2 q3 q4 q5 hz8
  unfold zimC at *
  obtain ⟨i0, hi0, hz0, hzz1, hzz2⟩ := info_parts size_u8
  rcases hz with ⟨rfl, rfl⟩ | ⟨rfl, rfl⟩
  · go_enter Try.func14, Try.ntmps14
    go_wp2_with fail
    refine KL.out.mono ?_
    rintro e w1 ⟨A1, n1, c1, rfl, hb1⟩
    have HS := Lib.hid (HS1.out.below hb1 HZ1.out)
    have HB := Lib.hid (HB1.out.trans (hb1.mono (Nat.le_of_lt HZ1.out)))
    have hw1 : w.heap.size < w1.heap.size := Nat.lt_of_lt_of_le HZ1.out hb1.size
    clear hb1 KL HS1 HB1
    go_wp2_with fail
    refine (KC.out _ HB.out).mono ?_
    rintro e w2 ⟨rfl, rfl⟩
    clear KC
    go_wp2_with fail
    have HM := Lib.hid (SlotN.new w1 [.int .i64 (q : Int), .int .i64 (hh : Int), .int .i64 24, .slice none 0 0] #[.int .i64 (q : Int), .int .i64 (hh : Int), .int .i64 24, .slice none 0 0] 24 rfl)
    have HS' := Lib.hid (HS.out.below ((Below.refl w1.heap.size w1).alloc (Nat.le_refl _) (.cells #[.int .i64 (q : Int), .int .i64 (hh : Int), .int .i64 24, .slice none 0 0] 24)) hw1)
    have HB' := Lib.hid (HB.out.alloc (Nat.le_of_lt hw1) (.cells #[.int .i64 (q : Int), .int .i64 (hh : Int), .int .i64 24, .slice none 0 0] 24))
    have hz2 : w1.heap.size < (w1.alloc (.cells #[.int .i64 (q : Int), .int .i64 (hh : Int), .int .i64 24, .slice none 0 0] 24)).heap.size := by simp
    clear HS HB
    go_loopw [49] (fun i wr => ∃ (k : Nat) (A' : Option Addr) (c' : Nat), k ≤ n ∧ i = .int .i64 k ∧ Hid (SlotN wr w1.heap.size [.int .i64 (q : Int), .int .i64 (hh : Int), .int .i64 24, .slice A' (k * 3) c']) ∧
      wr.ownsRow (w1.heap.size + 1) 5 1 (.slice A' (k * 3) c') (k * 3) (Lib.byteCells (greyT 3 (v.take k))) ∧ Hid (SlotN wr w.heap.size zim) ∧ Hid (Below w.heap.size w wr) ∧ w1.heap.size < wr.heap.size) (fun i _ => n - (intOf i).toNat)
    case atStart => exact ⟨0, none, 0, Nat.zero_le _, rfl, by simpa using HM, by rw [Nat.zero_mul, List.take_zero]; exact World.ownsRow_nil _ _ _ _, HS', HB', hz2⟩
    case round =>
      obtain ⟨k, A', c', hk, rfl, HM2, hown, HS2, HB2, hzr⟩ := hrel
      clear HM HS' HB' hz2
      by_cases hlt : k < n
      · have k1 : (k : Int) < (n : Int) := by omega
        have t1 : decide ((k : Int) < (n : Int)) = true := decide_eq_true k1
        obtain ⟨ad, x, rfl, hbl, hx, hm, hc, _, _⟩ := (HI.out.below HB2.out (Nat.le_refl _)).get hlt
        obtain ⟨b, rfl, hub⟩ := HG.out x hm
        have HT : Hid (greyT 3 (v.take (k + 1)) = greyT 3 (v.take k) ++ greyC 3 (b.toNat : Int)) := Lib.hid (by rw [take_snoc' _ _ _ hx, greyT_snoc])
        have HUB := Lib.hid hub
        have hb8 : b.toNat < 256 := b.toNat_lt
        have wu : IntKind.u8.wrap (b.toNat : Int) = (b.toNat : Int) := by rw [IntKind.wrap_u8]; omega
        clear hx hm hub
        have k0 : (0 : Int) ≤ (k : Int) := by omega
        go_wp2_with fail
        have HB8 := Lib.hid (HB2.out.alloc HB2.out.size (.cells #[.int .u8 (b.toNat : Int), .int .u8 (b.toNat : Int), .int .u8 (b.toNat : Int), .int .u8 255] 5))
        have hbb : Below wr.heap.size wr (wr.alloc (.cells #[.int .u8 (b.toNat : Int), .int .u8 (b.toNat : Int), .int .u8 (b.toNat : Int), .int .u8 255] 5)) := (Below.refl _ _).alloc (Nat.le_refl _) _
        have HM8 := Lib.hid (HM2.out.below hbb hzr)
        have HS8 := Lib.hid (HS2.out.below hbb (Nat.lt_of_le_of_lt (Nat.le_of_lt hw1) hzr))
        have HN8 := Lib.hid (heap_alloc_new wr (.cells #[.int .u8 (b.toNat : Int), .int .u8 (b.toNat : Int), .int .u8 (b.toNat : Int), .int .u8 255] 5))
        have HO8 := Lib.hid (hown.alloc (.cells #[.int .u8 (b.toNat : Int), .int .u8 (b.toNat : Int), .int .u8 (b.toNat : Int), .int .u8 255] 5))
        have hz8 : wr.heap.size < (wr.alloc (.cells #[.int .u8 (b.toNat : Int), .int .u8 (b.toNat : Int), .int .u8 (b.toNat : Int), .int .u8 255] 5)).heap.size := by simp
        clear HB2 HM2 HS2 hown hbb
        generalize wr.alloc (.cells #[.int .u8 (b.toNat : Int), .int .u8 (b.toNat : Int), .int .u8 (b.toNat : Int), .int .u8 255] 5) = W8 at *
        have hnews : ∀ j u, ([.int .u8 (b.toNat : Int), .int .u8 (b.toNat : Int), .int .u8 (b.toNat : Int)] : List Value)[j]? = some u → W8.cell? ((⟨wr.heap.size, 0, none⟩ : Addr).add j) = some u := fun j u hj => World.news_of_block HN8.out j u (by
          match j, hj with
          | 0, h => exact h
          | 1, h => exact h
          | 2, h => exact h
          | j + 3, h => simp at h)
        have HNW := Lib.hid hnews
        clear hnews
        have m3 := HM8.out.c 3 _ rfl
        have f3 := HM8.out.f 3
        have hza : w1.heap.size < W8.heap.size := Nat.lt_trans hzr hz8
        have w3 : IntKind.i64.wrap 3 = 3 := by rfl
        have hsl := slice_head ⟨wr.heap.size, 0, none⟩ 4 4 3 3 rfl (by omega) (by omega)
        go_region_law (refine step_append_lies _ (by rfl) _ _ _ (by rfl) (w1.heap.size + 1) 5 i0 _ 1 1 Try.underlying22 hi0 hz0 hzz1 hzz2 rfl (by omega) (.slice A' (k * 3) c') (k * 3) (Lib.byteCells (greyT 3 (v.take k))) (by rfl) HO8.out.drew ⟨wr.heap.size, 0, none⟩ 3 4 [.int .u8 (b.toNat : Int), .int .u8 (b.toNat : Int), .int .u8 (b.toNat : Int)] (by rfl) (by rfl) HNW.out (by simp [Value.oneCell']) (by omega) (by unfold maxLen; omega) (by omega) (by show _ ≤ W8.heap.size; omega) W8.heap.size rfl ?_; intro gg cap w9 hown9 hgr9 hat9 hlt9; have hne9 : some w1.heap.size ≠ (Value.slice A' (k * 3) c').ownBlock := (fun e => by have := (HO8.out.lt _ e.symm).1; omega); have HM9 := Lib.hid (slot_far (W := W8.drew) ⟨HM8.out.c, HM8.out.f⟩ hgr9 hne9 hza); have HS9 := Lib.hid (slot_far (W := W8.drew) ⟨HS8.out.c, HS8.out.f⟩ hgr9 (fun e => by have := (HO8.out.lt _ e.symm).1; omega) (Nat.lt_trans hw1 hza)); have HB9 := Lib.hid (HB8.out.drew.grown hgr9 HB8.out.size (fun j hj => by have := (HO8.out.lt _ hj).1; omega)); have HO9 := Lib.hid hown9; have m9 := HM9.out.c 3 _ rfl; have f9 := HM9.out.f 3; have hz9 : w1.heap.size < w9.heap.size := Nat.lt_of_lt_of_le hza hgr9.size; clear hown9 hgr9 hne9 hat9)
        have HM10 := Lib.hid (HM9.out.setAt 3 (by simp) (.slice (some ⟨gg, 0, none⟩) (k * 3 + 3) cap))
        have HS10 := Lib.hid (HS9.out.otherJ w1.heap.size 3 (by omega) (.slice (some ⟨gg, 0, none⟩) (k * 3 + 3) cap))
        have HB10 := Lib.hid (HB9.out.setCell (p := ⟨w1.heap.size, 3, none⟩) (Nat.le_of_lt hw1) (.slice (some ⟨gg, 0, none⟩) (k * 3 + 3) cap))
        have HO10 := Lib.hid (own_kept HO9.out (grown_set _ w1.heap.size 3 (.slice (some ⟨gg, 0, none⟩) (k * 3 + 3) cap)) (Nat.lt_succ_self _))
        have HE : Hid (Lib.byteCells (greyT 3 (v.take k)) ++ [.int .u8 (b.toNat : Int), .int .u8 (b.toNat : Int), .int .u8 (b.toNat : Int)] = Lib.byteCells (greyT 3 (v.take (k + 1)))) := Lib.hid (by
          rw [HT.out]
          unfold greyC
          rw [HUB.out]
          simp [Lib.byteCells])
        have hz10 : w1.heap.size < (w9.setCell ⟨w1.heap.size, 3, none⟩ (.slice (some ⟨gg, 0, none⟩) (k * 3 + 3) cap)).heap.size := by simpa using hz9
        clear HM8 HS8 HB8 HO8 HN8 HNW m3 f3 m9 f9 HM9 HS9 HB9 HO9 hz9 hza hz8 hsl
        go_wp2_with fail
        go_roundw
        case rel => exact ⟨k + 1, some ⟨gg, 0, none⟩, cap, by omega, by go_num, by rw [Nat.succ_mul]; exact HM10, by rw [Nat.succ_mul, ← HE.out]; exact HO10.out, HS10, HB10, hz10⟩
        case measure => simp only [intOf]; omega
      · have t1 : decide ((k : Int) < (n : Int)) = false := decide_eq_false (by omega)
        obtain rfl : k = n := by omega
        have m0 := HM2.out.c 0 _ rfl
        have m1 := HM2.out.c 1 _ rfl
        have m2 := HM2.out.c 2 _ rfl
        have m3 := HM2.out.c 3 _ rfl
        have s0 := HS2.out.c 0 _ rfl
        have s1 := HS2.out.c 1 _ rfl
        have s2 := HS2.out.c 2 _ rfl
        have s3 := HS2.out.c 3 _ rfl
        have f0 := HS2.out.f 0
        have f1 := HS2.out.f 1
        have f2 := HS2.out.f 2
        have f3 := HS2.out.f 3
        have HR := Lib.hid ((((HS2.out.setAt 0 (by simp [zim]) (.int .i64 (q : Int))).setAt 1 (by simp [zim]) (.int .i64 (hh : Int))).setAt 2 (by simp [zim]) (.int .i64 24)).setAt 3 (by simp [zim]) (.slice A' (k * 3) c'))
        have HB3 := Lib.hid ((((HB2.out.setCell (p := ⟨w.heap.size, 0, none⟩) (Nat.le_refl _) (.int .i64 (q : Int))).setCell (p := ⟨w.heap.size, 1, none⟩) (Nat.le_refl _) (.int .i64 (hh : Int))).setCell (p := ⟨w.heap.size, 2, none⟩) (Nat.le_refl _) (.int .i64 24)).setCell (p := ⟨w.heap.size, 3, none⟩) (Nat.le_refl _) (.slice A' (k * 3) c'))
        have HO := Lib.hid (own_kept (own_kept (own_kept (own_kept hown (grown_set _ w.heap.size 0 (.int .i64 (q : Int))) (by omega)) (grown_set _ w.heap.size 1 (.int .i64 (hh : Int))) (by omega)) (grown_set _ w.heap.size 2 (.int .i64 24)) (by omega)) (grown_set _ w.heap.size 3 (.slice A' (k * 3) c')) (by omega))
        have HV : Hid (v.take k = v) := Lib.hid (List.take_of_length_le (by rw [hl.out]; exact Nat.le_refl _))
        clear hown HS2 HB2 HM2
        go_wp2_with fail
        generalize World.setCell _ ⟨w.heap.size, 3, none⟩ (.slice A' (k * 3) c') = V at *
        clear s0 s1 s2 s3 f0 f1 f2 f3 m0 m1 m2 m3
        have e0 := HR.out.c 0 _ rfl
        have e1 := HR.out.c 1 _ rfl
        have e2 := HR.out.c 2 _ rfl
        have e3 := HR.out.c 3 _ rfl
        have HO' := HO.out
        rw [HV.out] at HO'
        have hcp := own_cap HO'
        exact bodyPost_ret (v := .tuple #[.agg #[.int .i64 (q : Int), .int .i64 (hh : Int), .int .i64 24, .slice A' (k * 3) c'], .int .i64 0]) (by simp [results, Try.results14, go_sem, e0, e1, e2, e3]) rfl (FIN.out A' (k * 3) c' _ HB3.out ⟨Rd.of_own HO', by have := hcp.1; have := hcp.2; omega⟩ hcp.1 hcp.2)
  · go_enter Try.func14, Try.ntmps14
    go_wp2_with fail
    refine KL.out.mono ?_
    rintro e w1 ⟨A1, n1, c1, rfl, hb1⟩
    have HS := Lib.hid (HS1.out.below hb1 HZ1.out)
    have HB := Lib.hid (HB1.out.trans (hb1.mono (Nat.le_of_lt HZ1.out)))
    have hw1 : w.heap.size < w1.heap.size := Nat.lt_of_lt_of_le HZ1.out hb1.size
    clear hb1 KL HS1 HB1
    go_wp2_with fail
    refine (KC.out _ HB.out).mono ?_
    rintro e w2 ⟨rfl, rfl⟩
    clear KC
    go_wp2_with fail
    have HM := Lib.hid (SlotN.new w1 [.int .i64 (q : Int), .int .i64 (hh : Int), .int .i64 32, .slice none 0 0] #[.int .i64 (q : Int), .int .i64 (hh : Int), .int .i64 32, .slice none 0 0] 24 rfl)
    have HS' := Lib.hid (HS.out.below ((Below.refl w1.heap.size w1).alloc (Nat.le_refl _) (.cells #[.int .i64 (q : Int), .int .i64 (hh : Int), .int .i64 32, .slice none 0 0] 24)) hw1)
    have HB' := Lib.hid (HB.out.alloc (Nat.le_of_lt hw1) (.cells #[.int .i64 (q : Int), .int .i64 (hh : Int), .int .i64 32, .slice none 0 0] 24))
    have hz2 : w1.heap.size < (w1.alloc (.cells #[.int .i64 (q : Int), .int .i64 (hh : Int), .int .i64 32, .slice none 0 0] 24)).heap.size := by simp
    clear HS HB
    go_loopw [49] (fun i wr => ∃ (k : Nat) (A' : Option Addr) (c' : Nat), k ≤ n ∧ i = .int .i64 k ∧ Hid (SlotN wr w1.heap.size [.int .i64 (q : Int), .int .i64 (hh : Int), .int .i64 32, .slice A' (k * 4) c']) ∧
      wr.ownsRow (w1.heap.size + 1) 5 1 (.slice A' (k * 4) c') (k * 4) (Lib.byteCells (greyT 4 (v.take k))) ∧ Hid (SlotN wr w.heap.size zim) ∧ Hid (Below w.heap.size w wr) ∧ w1.heap.size < wr.heap.size) (fun i _ => n - (intOf i).toNat)
    case atStart => exact ⟨0, none, 0, Nat.zero_le _, rfl, by simpa using HM, by rw [Nat.zero_mul, List.take_zero]; exact World.ownsRow_nil _ _ _ _, HS', HB', hz2⟩
    case round =>
      obtain ⟨k, A', c', hk, rfl, HM2, hown, HS2, HB2, hzr⟩ := hrel
      clear HM HS' HB' hz2
      by_cases hlt : k < n
      · have k1 : (k : Int) < (n : Int) := by omega
        have t1 : decide ((k : Int) < (n : Int)) = true := decide_eq_true k1
        obtain ⟨ad, x, rfl, hbl, hx, hm, hc, _, _⟩ := (HI.out.below HB2.out (Nat.le_refl _)).get hlt
        obtain ⟨b, rfl, hub⟩ := HG.out x hm
        have HT : Hid (greyT 4 (v.take (k + 1)) = greyT 4 (v.take k) ++ greyC 4 (b.toNat : Int)) := Lib.hid (by rw [take_snoc' _ _ _ hx, greyT_snoc])
        have HUB := Lib.hid hub
        have hb8 : b.toNat < 256 := b.toNat_lt
        have wu : IntKind.u8.wrap (b.toNat : Int) = (b.toNat : Int) := by rw [IntKind.wrap_u8]; omega
        clear hx hm hub
        have k0 : (0 : Int) ≤ (k : Int) := by omega
        go_wp2_with fail
        have HB8 := Lib.hid (HB2.out.alloc HB2.out.size (.cells #[.int .u8 (b.toNat : Int), .int .u8 (b.toNat : Int), .int .u8 (b.toNat : Int), .int .u8 255] 5))
        have hbb : Below wr.heap.size wr (wr.alloc (.cells #[.int .u8 (b.toNat : Int), .int .u8 (b.toNat : Int), .int .u8 (b.toNat : Int), .int .u8 255] 5)) := (Below.refl _ _).alloc (Nat.le_refl _) _
        have HM8 := Lib.hid (HM2.out.below hbb hzr)
        have HS8 := Lib.hid (HS2.out.below hbb (Nat.lt_of_le_of_lt (Nat.le_of_lt hw1) hzr))
        have HN8 := Lib.hid (heap_alloc_new wr (.cells #[.int .u8 (b.toNat : Int), .int .u8 (b.toNat : Int), .int .u8 (b.toNat : Int), .int .u8 255] 5))
        have HO8 := Lib.hid (hown.alloc (.cells #[.int .u8 (b.toNat : Int), .int .u8 (b.toNat : Int), .int .u8 (b.toNat : Int), .int .u8 255] 5))
        have hz8 : wr.heap.size < (wr.alloc (.cells #[.int .u8 (b.toNat : Int), .int .u8 (b.toNat : Int), .int .u8 (b.toNat : Int), .int .u8 255] 5)).heap.size := by simp
        clear HB2 HM2 HS2 hown hbb
        generalize wr.alloc (.cells #[.int .u8 (b.toNat : Int), .int .u8 (b.toNat : Int), .int .u8 (b.toNat : Int), .int .u8 255] 5) = W8 at *
        have hnews : ∀ j u, ([.int .u8 (b.toNat : Int), .int .u8 (b.toNat : Int), .int .u8 (b.toNat : Int), .int .u8 255] : List Value)[j]? = some u → W8.cell? ((⟨wr.heap.size, 0, none⟩ : Addr).add j) = some u := fun j u hj => World.news_of_block HN8.out j u (by
          match j, hj with
          | 0, h => exact h
          | 1, h => exact h
          | 2, h => exact h
          | j + 3, h => exact h)
        have HNW := Lib.hid hnews
        clear hnews
        have m3 := HM8.out.c 3 _ rfl
        have f3 := HM8.out.f 3
        have hza : w1.heap.size < W8.heap.size := Nat.lt_trans hzr hz8
        have w3 : IntKind.i64.wrap 4 = 4 := by rfl
        have hsl := slice_head ⟨wr.heap.size, 0, none⟩ 4 4 4 4 rfl (by omega) (by omega)
        go_region_law (refine step_append_lies _ (by rfl) _ _ _ (by rfl) (w1.heap.size + 1) 5 i0 _ 1 1 Try.underlying22 hi0 hz0 hzz1 hzz2 rfl (by omega) (.slice A' (k * 4) c') (k * 4) (Lib.byteCells (greyT 4 (v.take k))) (by rfl) HO8.out.drew ⟨wr.heap.size, 0, none⟩ 4 4 [.int .u8 (b.toNat : Int), .int .u8 (b.toNat : Int), .int .u8 (b.toNat : Int), .int .u8 255] (by rfl) (by rfl) HNW.out (by simp [Value.oneCell']) (by omega) (by unfold maxLen; omega) (by omega) (by show _ ≤ W8.heap.size; omega) W8.heap.size rfl ?_; intro gg cap w9 hown9 hgr9 hat9 hlt9; have hne9 : some w1.heap.size ≠ (Value.slice A' (k * 4) c').ownBlock := (fun e => by have := (HO8.out.lt _ e.symm).1; omega); have HM9 := Lib.hid (slot_far (W := W8.drew) ⟨HM8.out.c, HM8.out.f⟩ hgr9 hne9 hza); have HS9 := Lib.hid (slot_far (W := W8.drew) ⟨HS8.out.c, HS8.out.f⟩ hgr9 (fun e => by have := (HO8.out.lt _ e.symm).1; omega) (Nat.lt_trans hw1 hza)); have HB9 := Lib.hid (HB8.out.drew.grown hgr9 HB8.out.size (fun j hj => by have := (HO8.out.lt _ hj).1; omega)); have HO9 := Lib.hid hown9; have m9 := HM9.out.c 3 _ rfl; have f9 := HM9.out.f 3; have hz9 : w1.heap.size < w9.heap.size := Nat.lt_of_lt_of_le hza hgr9.size; clear hown9 hgr9 hne9 hat9)
        have HM10 := Lib.hid (HM9.out.setAt 3 (by simp) (.slice (some ⟨gg, 0, none⟩) (k * 4 + 4) cap))
        have HS10 := Lib.hid (HS9.out.otherJ w1.heap.size 3 (by omega) (.slice (some ⟨gg, 0, none⟩) (k * 4 + 4) cap))
        have HB10 := Lib.hid (HB9.out.setCell (p := ⟨w1.heap.size, 3, none⟩) (Nat.le_of_lt hw1) (.slice (some ⟨gg, 0, none⟩) (k * 4 + 4) cap))
        have HO10 := Lib.hid (own_kept HO9.out (grown_set _ w1.heap.size 3 (.slice (some ⟨gg, 0, none⟩) (k * 4 + 4) cap)) (Nat.lt_succ_self _))
        have HE : Hid (Lib.byteCells (greyT 4 (v.take k)) ++ [.int .u8 (b.toNat : Int), .int .u8 (b.toNat : Int), .int .u8 (b.toNat : Int), .int .u8 255] = Lib.byteCells (greyT 4 (v.take (k + 1)))) := Lib.hid (by
          rw [HT.out]
          unfold greyC
          rw [HUB.out]
          simp [Lib.byteCells])
        have hz10 : w1.heap.size < (w9.setCell ⟨w1.heap.size, 3, none⟩ (.slice (some ⟨gg, 0, none⟩) (k * 4 + 4) cap)).heap.size := by simpa using hz9
        clear HM8 HS8 HB8 HO8 HN8 HNW m3 f3 m9 f9 HM9 HS9 HB9 HO9 hz9 hza hz8 hsl
        go_wp2_with fail
        go_roundw
        case rel => exact ⟨k + 1, some ⟨gg, 0, none⟩, cap, by omega, by go_num, by rw [Nat.succ_mul]; exact HM10, by rw [Nat.succ_mul, ← HE.out]; exact HO10.out, HS10, HB10, hz10⟩
        case measure => simp only [intOf]; omega
      · have t1 : decide ((k : Int) < (n : Int)) = false := decide_eq_false (by omega)
        obtain rfl : k = n := by omega
        have m0 := HM2.out.c 0 _ rfl
        have m1 := HM2.out.c 1 _ rfl
        have m2 := HM2.out.c 2 _ rfl
        have m3 := HM2.out.c 3 _ rfl
        have s0 := HS2.out.c 0 _ rfl
        have s1 := HS2.out.c 1 _ rfl
        have s2 := HS2.out.c 2 _ rfl
        have s3 := HS2.out.c 3 _ rfl
        have f0 := HS2.out.f 0
        have f1 := HS2.out.f 1
        have f2 := HS2.out.f 2
        have f3 := HS2.out.f 3
        have HR := Lib.hid ((((HS2.out.setAt 0 (by simp [zim]) (.int .i64 (q : Int))).setAt 1 (by simp [zim]) (.int .i64 (hh : Int))).setAt 2 (by simp [zim]) (.int .i64 32)).setAt 3 (by simp [zim]) (.slice A' (k * 4) c'))
        have HB3 := Lib.hid ((((HB2.out.setCell (p := ⟨w.heap.size, 0, none⟩) (Nat.le_refl _) (.int .i64 (q : Int))).setCell (p := ⟨w.heap.size, 1, none⟩) (Nat.le_refl _) (.int .i64 (hh : Int))).setCell (p := ⟨w.heap.size, 2, none⟩) (Nat.le_refl _) (.int .i64 32)).setCell (p := ⟨w.heap.size, 3, none⟩) (Nat.le_refl _) (.slice A' (k * 4) c'))
        have HO := Lib.hid (own_kept (own_kept (own_kept (own_kept hown (grown_set _ w.heap.size 0 (.int .i64 (q : Int))) (by omega)) (grown_set _ w.heap.size 1 (.int .i64 (hh : Int))) (by omega)) (grown_set _ w.heap.size 2 (.int .i64 32)) (by omega)) (grown_set _ w.heap.size 3 (.slice A' (k * 4) c')) (by omega))
        have HV : Hid (v.take k = v) := Lib.hid (List.take_of_length_le (by rw [hl.out]; exact Nat.le_refl _))
        clear hown HS2 HB2 HM2
        go_wp2_with fail
        generalize World.setCell _ ⟨w.heap.size, 3, none⟩ (.slice A' (k * 4) c') = V at *
        clear s0 s1 s2 s3 f0 f1 f2 f3 m0 m1 m2 m3
        have e0 := HR.out.c 0 _ rfl
        have e1 := HR.out.c 1 _ rfl
        have e2 := HR.out.c 2 _ rfl
        have e3 := HR.out.c 3 _ rfl
        have HO' := HO.out
        rw [HV.out] at HO'
        have hcp := own_cap HO'
        exact bodyPost_ret (v := .tuple #[.agg #[.int .i64 (q : Int), .int .i64 (hh : Int), .int .i64 32, .slice A' (k * 4) c'], .int .i64 0]) (by simp [results, Try.results14, go_sem, e0, e1, e2, e3]) rfl (FIN.out A' (k * 4) c' _ HB3.out ⟨Rd.of_own HO', by have := hcp.1; have := hcp.2; omega⟩ hcp.1 hcp.2)
theorem grey_any (A : Option Addr) (n c : Nat) (v : List Int) (ww b : Int) (w : World) (hI : Ints w w.heap.size A n v) (hn : n ≤ 1000) (bw : i64b ww) :
    Calls Try.prog 14 #[.int .i64 ww, .slice A n c, .int .i64 b] w (GreyRes ww v b w) := by
  cases h : greyOk ww v b with
  | false => exact grey_no A n c v ww b w hI hn bw h
  | true =>
    obtain ⟨g1, _, _, g4⟩ := greyOk_iff.1 h
    obtain ⟨q, rfl⟩ : ∃ q : Nat, ww = q := ⟨ww.toNat, by have := (levelOk_iff.1 g1).1; omega⟩
    rcases g4 with rfl | rfl
    · exact grey_yes A n c q 3 v 24 w hI hn (.inl ⟨rfl, rfl⟩) h
    · exact grey_yes A n c q 4 v 32 w hI hn (.inr ⟨rfl, rfl⟩) h
end Go.Proofs.Ytfkkppagbhllgaa
