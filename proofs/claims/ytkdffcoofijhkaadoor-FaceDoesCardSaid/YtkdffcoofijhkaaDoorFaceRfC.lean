/-
  THE WALK OF limewashref07.Corner.
-/
import Derived.Test.YtkdffcoofijhkaaDoorFaceRfB
import Derived.Test.YtkdffcoofijhkaaDoorFaceWalkE
set_option linter.unusedVariables false
set_option linter.unusedSimpArgs false
set_option maxRecDepth 8000
namespace Go.Proofs.YtkdffcoofijhkaaDoor
open Go.RowKit

theorem corner_is (l : List UInt8) (m : P3) (ls : List (List UInt8)) (hls : split1 47 l = ls) : cornerR l m =
    if refForm ls then
      if (partR ls 0 m.a).2 ≠ 0 then (⟨0, 0, 0⟩, (partR ls 0 m.a).2)
      else if (partR ls 1 m.b).2 ≠ 0 then (⟨0, 0, 0⟩, (partR ls 1 m.b).2)
      else if (partR ls 2 m.c).2 ≠ 0 then (⟨0, 0, 0⟩, (partR ls 2 m.c).2)
      else (⟨(partR ls 0 m.a).1, (partR ls 1 m.b).1, (partR ls 2 m.c).1⟩, 0)
    else (⟨0, 0, 0⟩, 6) := by
  unfold cornerR
  rw [hls]
  unfold readR
  rw [form_ref ls (by rw [← hls]; exact split1_ne 47 l)]
theorem place_codes (l : List UInt8) (k : Int) : (placeR l k).2 = 0 ∨ (placeR l k).2 = 6 ∨ (placeR l k).2 = 7 := by
  unfold placeR
  split
  · split
    · exact .inl rfl
    · split
      · exact .inl rfl
      · exact .inr (.inr rfl)
  · exact .inr (.inl rfl)
/-- the corner's cell, ahead of the answer -/
structure CnAt (w W : World) (x y z : Int) : Prop where
  r : SlotN W w.heap.size [.int .i64 x, .int .i64 y, .int .i64 z]
  lt : w.heap.size < W.heap.size
  below : Below w.heap.size w W
theorem CnAt.grown {w W W' : World} {x y z : Int} (h : CnAt w W x y z) (hb : Below W.heap.size W W') : CnAt w W' x y z :=
  ⟨h.r.below hb h.lt, Nat.lt_of_lt_of_le h.lt hb.size, h.below.trans (hb.mono (Nat.le_of_lt h.lt))⟩
theorem CnAt.put {w W : World} {x y z : Int} (h : CnAt w W x y z) (a b c : Int) : CnAt w (((W.setCell ⟨w.heap.size, 0, none⟩ (.int .i64 a)).setCell ⟨w.heap.size, 1, none⟩ (.int .i64 b)).setCell ⟨w.heap.size, 2, none⟩ (.int .i64 c)) a b c :=
  ⟨((h.r.set3 0 (by decide) (.int .i64 a)).set3 1 (by decide) (.int .i64 b)).set3 2 (by decide) (.int .i64 c), by simpa using h.lt,
   ((h.below.setCell (p := ⟨w.heap.size, 0, none⟩) (Nat.le_refl _) (.int .i64 a)).setCell (p := ⟨w.heap.size, 1, none⟩) (Nat.le_refl _) (.int .i64 b)).setCell (p := ⟨w.heap.size, 2, none⟩) (Nat.le_refl _) (.int .i64 c)⟩
theorem CnAt.other {w W : World} {x y z : Int} (h : CnAt w W x y z) (g j : Nat) (hg : w.heap.size < g) (u : Value) : CnAt w (W.setCell ⟨g, j, none⟩ u) x y z :=
  ⟨⟨fun k v hk => by rw [World.cell?_setCell_other _ _ _ _ (by intro e; injection e with e1 _; omega)]; exact h.r.c k v hk, fun k => by rw [World.frozen?_setCell]; exact h.r.f k⟩, by simpa using h.lt, h.below.setCell (p := ⟨g, j, none⟩) (Nat.le_of_lt hg) u⟩
set_option maxHeartbeats 3200000 in
theorem cornerref_any (l : List UInt8) (m : P3) (w : World) (hl : l.length ≤ 100000) (hm : m.bd) :
    Calls Tryd.prog 29 #[.string ⟨l.toArray⟩, .int .i64 m.a, .int .i64 m.b, .int .i64 m.c] w (CornerRes (cornerR l m) w) := by
  obtain ⟨ma, mb, mc⟩ := m
  obtain ⟨bma, bmb, bmc⟩ := hm
  dsimp only at bma bmb bmc ⊢
  have KCUT := Lib.hid (fun W => rcut_any l W hl)
  have hle := split1_le 47 l
  obtain ⟨ls, hls⟩ : ∃ ls, split1 47 l = ls := ⟨_, rfl⟩
  have hne : ls ≠ [] := by rw [← hls]; exact split1_ne 47 l
  have hcr := corner_is l ⟨ma, mb, mc⟩ ls hls
  rw [hls] at hle
  have KW := Lib.hid (fun x W (hx : x ∈ ls) => iswhole_any x W (Nat.le_trans (hle x hx) hl))
  have KP := Lib.hid (fun x k W (hx : x ∈ ls) (hk : i64b k) => placeref_any x k W (Nat.le_trans (hle x hx) hl) hk)
  have FIN : Hid (∀ (r : P3) (z : Int) W, cornerR l ⟨ma, mb, mc⟩ = (r, z) → Below w.heap.size w W → CornerRes (cornerR l ⟨ma, mb, mc⟩) w (.returned (.tuple #[p3V r, .int .i64 z])) W) := Lib.hid fun r z W h hb => by rw [h]; exact ⟨rfl, hb⟩
  generalize hQ : CornerRes (cornerR l ⟨ma, mb, mc⟩) w = Qp at FIN ⊢
  clear hQ
  have HC0 : Hid (CnAt w (w.alloc (.cells #[.int .i64 0, .int .i64 0, .int .i64 0] 26)) 0 0 0) := Lib.hid ⟨SlotN.new w _ _ _ rfl, by simp, (Below.refl _ _).alloc (Nat.le_refl _) _⟩
  have HCR := Lib.hid hcr
  have HBM := Lib.hid (⟨bma, bmb, bmc⟩ : _ ∧ _ ∧ _)
  clear hcr hle bma bmb bmc
  match ls, hls, hne, KW, KP, HCR with
  | a :: b :: c :: d :: r, hls, _, KW, KP, HCR =>
    have HR : Hid (cornerR l ⟨ma, mb, mc⟩ = (⟨0, 0, 0⟩, 6)) := Lib.hid (by rw [HCR.out]; rfl)
    go_enter Tryd.func29, Tryd.ntmps29
    go_wp2_with fail
    refine (KCUT.out _).mono ?_
    clear KCUT
    rintro e w1 ⟨hb1, A, n, c, rfl, hS⟩
    have HC := Lib.hid (HC0.out.grown hb1)
    have hn := hS.length
    clear hb1 HC0
    rw [hls] at hS hn
    have t3 : decide ((3 : Int) < (n : Int)) = true := decide_eq_true (by simp at hn; omega)
    have t3n : decide (3 < n) = true := decide_eq_true (by simp at hn; omega)
    clear hn
    have HC2 := Lib.hid (HC.out.put 0 0 0)
    have c0 := HC.out.r.c 0 _ rfl
    have c1 := HC.out.r.c 1 _ rfl
    have c2 := HC.out.r.c 2 _ rfl
    have f0 := HC.out.r.f 0
    have f1 := HC.out.r.f 1
    have f2 := HC.out.r.f 2
    go_wp2_with fail
    generalize World.setCell _ ⟨w.heap.size, 2, none⟩ (.int .i64 0) = V at *
    clear c0 c1 c2 f0 f1 f2
    have e0 := HC2.out.r.c 0 _ rfl
    have e1 := HC2.out.r.c 1 _ rfl
    have e2 := HC2.out.r.c 2 _ rfl
    exact bodyPost_ret (v := .tuple #[p3V ⟨0, 0, 0⟩, .int .i64 6]) (by simp [results, Tryd.results29, go_sem, e0, e1, e2, p3V]) rfl (FIN.out _ _ _ HR.out HC2.out.below)
  | [a], hls, _, KW, KP, HCR =>
    cases hwa : wholeOk a with
    | false =>
      have HR : Hid (cornerR l ⟨ma, mb, mc⟩ = (⟨0, 0, 0⟩, 6)) := Lib.hid (by rw [HCR.out]; simp [refForm, partR, hwa])
      go_enter Tryd.func29, Tryd.ntmps29
      go_wp2_with fail
      refine (KCUT.out _).mono ?_
      clear KCUT
      rintro e w1 ⟨hb1, A, n, c', rfl, hS⟩
      have HC := Lib.hid (HC0.out.grown hb1)
      have hn := hS.length
      clear hb1 HC0
      rw [hls] at hS hn
      obtain rfl : n = 1 := by simpa using hn.symm
      clear hn
      obtain ⟨ad0, x0, rfl, hb0, hx0, _, p0⟩ := hS.get (k := 0) (by omega)
      obtain rfl : a = x0 := by simpa using hx0
      clear hx0
      rw [show ad0.add 0 = ad0 from rfl] at p0
      have P0 := Lib.hid p0
      have KWa := Lib.hid (fun W => KW.out a W (by simp))
      rw [hwa] at KWa
      clear KW
      have HC2 := Lib.hid (HC.out.put 0 0 0)
      have c0 := HC.out.r.c 0 _ rfl
      have c1 := HC.out.r.c 1 _ rfl
      have c2 := HC.out.r.c 2 _ rfl
      have f0 := HC.out.r.f 0
      have f1 := HC.out.r.f 1
      have f2 := HC.out.r.f 2
      go_wp2_with fail
      refine (KWa.out _).mono ?_
      clear KWa
      rintro e wx ⟨rfl, hwx⟩; obtain rfl := hwx.symm
      go_wp2_with fail
      generalize World.setCell _ ⟨w.heap.size, 2, none⟩ (.int .i64 0) = V at *
      clear c0 c1 c2 f0 f1 f2
      have e0 := HC2.out.r.c 0 _ rfl
      have e1 := HC2.out.r.c 1 _ rfl
      have e2 := HC2.out.r.c 2 _ rfl
      exact bodyPost_ret (v := .tuple #[p3V ⟨0, 0, 0⟩, .int .i64 6]) (by simp [results, Tryd.results29, go_sem, e0, e1, e2, p3V]) rfl (FIN.out _ _ _ HR.out HC2.out.below)
    | true =>
      have hfa := whole_full hwa
      obtain ⟨⟨v0, z0⟩, hp0⟩ : ∃ r, placeR a ma = r := ⟨_, rfl⟩
      by_cases hz0 : z0 = 0
      · subst hz0
        have HR : Hid (cornerR l ⟨ma, mb, mc⟩ = (⟨v0, -1, -1⟩, 0)) := Lib.hid (by rw [HCR.out]; simp [refForm, partR, hwa, hfa, hp0])
        go_enter Tryd.func29, Tryd.ntmps29
        go_wp2_with fail
        refine (KCUT.out _).mono ?_
        clear KCUT
        rintro e w1 ⟨hb1, A, n, c', rfl, hS⟩
        have HC := Lib.hid (HC0.out.grown hb1)
        have hn := hS.length
        clear hb1 HC0
        rw [hls] at hS hn
        obtain rfl : n = 1 := by simpa using hn.symm
        clear hn
        obtain ⟨ad0, x0, rfl, hb0, hx0, _, p0⟩ := hS.get (k := 0) (by omega)
        obtain rfl : a = x0 := by simpa using hx0
        clear hx0
        rw [show ad0.add 0 = ad0 from rfl] at p0
        have P0 := Lib.hid p0
        have KWa := Lib.hid (fun W => KW.out a W (by simp))
        rw [hwa] at KWa
        clear KW
        go_wp2_with fail
        refine (KWa.out _).mono ?_
        clear KWa
        rintro e wx ⟨rfl, hwx⟩; obtain rfl := hwx.symm
        have hbb : Below w1.heap.size w1 (w1.alloc (.cells #[.int .i64 (-1), .int .i64 (-1), .int .i64 (-1)] 26)) := (Below.refl _ _).alloc (Nat.le_refl _) _
        have HT := Lib.hid (SlotN.new w1 [.int .i64 (-1), .int .i64 (-1), .int .i64 (-1)] #[.int .i64 (-1), .int .i64 (-1), .int .i64 (-1)] 26 rfl)
        have HCn := Lib.hid (HC.out.grown hbb)
        have HBW := Lib.hid hbb
        have hlw := HC.out.lt
        clear hbb HC
        have HC := HCn
        clear HCn
        clear p0
        have p0 := (HBW.out.cell (p := ad0) hb0).trans P0.out
        go_wp2_with fail
        generalize hW2 : w1.alloc (.cells #[.int .i64 (-1), .int .i64 (-1), .int .i64 (-1)] 26) = W2 at *
        clear hW2
        have KPx := Lib.hid (fun W => KP.out a ma W (by simp) HBM.out.1)
        rw [hp0] at KPx
        dsimp only at KPx
        refine (KPx.out _).mono ?_
        clear KPx
        rintro e wx ⟨rfl, hwx⟩; obtain rfl := hwx.symm
        have t0' := HT.out.c 0 _ rfl
        have g0 := HT.out.f 0
        have HTn := Lib.hid (HT.out.set3 0 (by decide) (.int .i64 v0))
        have HCn := Lib.hid (HC.out.other w1.heap.size 0 hlw (.int .i64 v0))
        have HBn := Lib.hid (HBW.out.setCell (p := ⟨w1.heap.size, 0, none⟩) (Nat.le_refl _) (.int .i64 v0))
        clear HT HC HBW
        have HT := HTn
        have HC := HCn
        have HBW := HBn
        clear HTn HCn HBn
        have q0 := (HBW.out.cell (p := ad0) hb0).trans P0.out
        have s0 := HT.out.c 0 _ rfl
        have s1 := HT.out.c 1 _ rfl
        have s2 := HT.out.c 2 _ rfl
        have HC2 := Lib.hid (HC.out.put v0 (-1) (-1))
        have c0 := HC.out.r.c 0 _ rfl
        have c1 := HC.out.r.c 1 _ rfl
        have c2 := HC.out.r.c 2 _ rfl
        have f0 := HC.out.r.f 0
        have f1 := HC.out.r.f 1
        have f2 := HC.out.r.f 2
        go_wp2_with fail
        generalize World.setCell _ ⟨w.heap.size, 2, none⟩ (.int .i64 (-1)) = V at *
        clear c0 c1 c2 f0 f1 f2
        have e0 := HC2.out.r.c 0 _ rfl
        have e1 := HC2.out.r.c 1 _ rfl
        have e2 := HC2.out.r.c 2 _ rfl
        exact bodyPost_ret (v := .tuple #[p3V ⟨v0, (-1), (-1)⟩, .int .i64 0]) (by simp [results, Tryd.results29, go_sem, e0, e1, e2, p3V]) rfl (FIN.out _ _ _ HR.out HC2.out.below)
      · have nz : (z0 != 0) = true := by rw [bne_iff_ne]; exact hz0
        have HR : Hid (cornerR l ⟨ma, mb, mc⟩ = (⟨0, 0, 0⟩, z0)) := Lib.hid (by rw [HCR.out]; simp [refForm, partR, hwa, hfa, hp0, hz0])
        clear hz0
        go_enter Tryd.func29, Tryd.ntmps29
        go_wp2_with fail
        refine (KCUT.out _).mono ?_
        clear KCUT
        rintro e w1 ⟨hb1, A, n, c', rfl, hS⟩
        have HC := Lib.hid (HC0.out.grown hb1)
        have hn := hS.length
        clear hb1 HC0
        rw [hls] at hS hn
        obtain rfl : n = 1 := by simpa using hn.symm
        clear hn
        obtain ⟨ad0, x0, rfl, hb0, hx0, _, p0⟩ := hS.get (k := 0) (by omega)
        obtain rfl : a = x0 := by simpa using hx0
        clear hx0
        rw [show ad0.add 0 = ad0 from rfl] at p0
        have P0 := Lib.hid p0
        have KWa := Lib.hid (fun W => KW.out a W (by simp))
        rw [hwa] at KWa
        clear KW
        go_wp2_with fail
        refine (KWa.out _).mono ?_
        clear KWa
        rintro e wx ⟨rfl, hwx⟩; obtain rfl := hwx.symm
        have hbb : Below w1.heap.size w1 (w1.alloc (.cells #[.int .i64 (-1), .int .i64 (-1), .int .i64 (-1)] 26)) := (Below.refl _ _).alloc (Nat.le_refl _) _
        have HT := Lib.hid (SlotN.new w1 [.int .i64 (-1), .int .i64 (-1), .int .i64 (-1)] #[.int .i64 (-1), .int .i64 (-1), .int .i64 (-1)] 26 rfl)
        have HCn := Lib.hid (HC.out.grown hbb)
        have HBW := Lib.hid hbb
        have hlw := HC.out.lt
        clear hbb HC
        have HC := HCn
        clear HCn
        clear p0
        have p0 := (HBW.out.cell (p := ad0) hb0).trans P0.out
        go_wp2_with fail
        generalize hW2 : w1.alloc (.cells #[.int .i64 (-1), .int .i64 (-1), .int .i64 (-1)] 26) = W2 at *
        clear hW2
        have KPx := Lib.hid (fun W => KP.out a ma W (by simp) HBM.out.1)
        rw [hp0] at KPx
        dsimp only at KPx
        refine (KPx.out _).mono ?_
        clear KPx
        rintro e wx ⟨rfl, hwx⟩; obtain rfl := hwx.symm
        have HC2 := Lib.hid (HC.out.put 0 0 0)
        have c0 := HC.out.r.c 0 _ rfl
        have c1 := HC.out.r.c 1 _ rfl
        have c2 := HC.out.r.c 2 _ rfl
        have f0 := HC.out.r.f 0
        have f1 := HC.out.r.f 1
        have f2 := HC.out.r.f 2
        go_wp2_with fail
        generalize World.setCell _ ⟨w.heap.size, 2, none⟩ (.int .i64 0) = V at *
        clear c0 c1 c2 f0 f1 f2
        have e0 := HC2.out.r.c 0 _ rfl
        have e1 := HC2.out.r.c 1 _ rfl
        have e2 := HC2.out.r.c 2 _ rfl
        exact bodyPost_ret (v := .tuple #[p3V ⟨0, 0, 0⟩, .int .i64 z0]) (by simp [results, Tryd.results29, go_sem, e0, e1, e2, p3V]) rfl (FIN.out _ _ _ HR.out HC2.out.below)
  | [a, b], hls, _, KW, KP, HCR =>
    cases hwa : wholeOk a with
    | false =>
      have HR : Hid (cornerR l ⟨ma, mb, mc⟩ = (⟨0, 0, 0⟩, 6)) := Lib.hid (by rw [HCR.out]; simp [refForm, partR, hwa])
      go_enter Tryd.func29, Tryd.ntmps29
      go_wp2_with fail
      refine (KCUT.out _).mono ?_
      clear KCUT
      rintro e w1 ⟨hb1, A, n, c', rfl, hS⟩
      have HC := Lib.hid (HC0.out.grown hb1)
      have hn := hS.length
      clear hb1 HC0
      rw [hls] at hS hn
      obtain rfl : n = 2 := by simpa using hn.symm
      clear hn
      obtain ⟨ad0, x0, rfl, hb0, hx0, _, p0⟩ := hS.get (k := 0) (by omega)
      obtain rfl : a = x0 := by simpa using hx0
      clear hx0
      obtain ⟨ad1, x1, e1, hb1, hx1, _, p1⟩ := hS.get (k := 1) (by omega)
      obtain rfl : ad0 = ad1 := by injection e1
      clear e1
      obtain rfl : b = x1 := by simpa using hx1
      clear hx1
      rw [show ad0.add 0 = ad0 from rfl] at p0
      have P0 := Lib.hid p0
      rw [addr_off ad0 (by decide)] at p1
      have P1 := Lib.hid p1
      have KWa := Lib.hid (fun W => KW.out a W (by simp))
      rw [hwa] at KWa
      clear KW
      have HC2 := Lib.hid (HC.out.put 0 0 0)
      have c0 := HC.out.r.c 0 _ rfl
      have c1 := HC.out.r.c 1 _ rfl
      have c2 := HC.out.r.c 2 _ rfl
      have f0 := HC.out.r.f 0
      have f1 := HC.out.r.f 1
      have f2 := HC.out.r.f 2
      go_wp2_with fail
      refine (KWa.out _).mono ?_
      clear KWa
      rintro e wx ⟨rfl, hwx⟩; obtain rfl := hwx.symm
      go_wp2_with fail
      generalize World.setCell _ ⟨w.heap.size, 2, none⟩ (.int .i64 0) = V at *
      clear c0 c1 c2 f0 f1 f2
      have e0 := HC2.out.r.c 0 _ rfl
      have e1 := HC2.out.r.c 1 _ rfl
      have e2 := HC2.out.r.c 2 _ rfl
      exact bodyPost_ret (v := .tuple #[p3V ⟨0, 0, 0⟩, .int .i64 6]) (by simp [results, Tryd.results29, go_sem, e0, e1, e2, p3V]) rfl (FIN.out _ _ _ HR.out HC2.out.below)
    | true =>
      have hfa := whole_full hwa
      cases hwb : wholeOk b with
      | false =>
        have HR : Hid (cornerR l ⟨ma, mb, mc⟩ = (⟨0, 0, 0⟩, 6)) := Lib.hid (by rw [HCR.out]; simp [refForm, partR, hwa, hfa, hwb])
        go_enter Tryd.func29, Tryd.ntmps29
        go_wp2_with fail
        refine (KCUT.out _).mono ?_
        clear KCUT
        rintro e w1 ⟨hb1, A, n, c', rfl, hS⟩
        have HC := Lib.hid (HC0.out.grown hb1)
        have hn := hS.length
        clear hb1 HC0
        rw [hls] at hS hn
        obtain rfl : n = 2 := by simpa using hn.symm
        clear hn
        obtain ⟨ad0, x0, rfl, hb0, hx0, _, p0⟩ := hS.get (k := 0) (by omega)
        obtain rfl : a = x0 := by simpa using hx0
        clear hx0
        obtain ⟨ad1, x1, e1, hb1, hx1, _, p1⟩ := hS.get (k := 1) (by omega)
        obtain rfl : ad0 = ad1 := by injection e1
        clear e1
        obtain rfl : b = x1 := by simpa using hx1
        clear hx1
        rw [show ad0.add 0 = ad0 from rfl] at p0
        have P0 := Lib.hid p0
        rw [addr_off ad0 (by decide)] at p1
        have P1 := Lib.hid p1
        have KWa := Lib.hid (fun W => KW.out a W (by simp))
        rw [hwa] at KWa
        have KWb := Lib.hid (fun W => KW.out b W (by simp))
        rw [hwb] at KWb
        clear KW
        have HC2 := Lib.hid (HC.out.put 0 0 0)
        have c0 := HC.out.r.c 0 _ rfl
        have c1 := HC.out.r.c 1 _ rfl
        have c2 := HC.out.r.c 2 _ rfl
        have f0 := HC.out.r.f 0
        have f1 := HC.out.r.f 1
        have f2 := HC.out.r.f 2
        go_wp2_with fail
        refine (KWa.out _).mono ?_
        clear KWa
        rintro e wx ⟨rfl, hwx⟩; obtain rfl := hwx.symm
        go_wp2_with fail
        refine (KWb.out _).mono ?_
        clear KWb
        rintro e wx ⟨rfl, hwx⟩; obtain rfl := hwx.symm
        go_wp2_with fail
        generalize World.setCell _ ⟨w.heap.size, 2, none⟩ (.int .i64 0) = V at *
        clear c0 c1 c2 f0 f1 f2
        have e0 := HC2.out.r.c 0 _ rfl
        have e1 := HC2.out.r.c 1 _ rfl
        have e2 := HC2.out.r.c 2 _ rfl
        exact bodyPost_ret (v := .tuple #[p3V ⟨0, 0, 0⟩, .int .i64 6]) (by simp [results, Tryd.results29, go_sem, e0, e1, e2, p3V]) rfl (FIN.out _ _ _ HR.out HC2.out.below)
      | true =>
        have hfb := whole_full hwb
        have nb : (b != []) = true := by cases b with
          | nil => cases hfb
          | cons x y => rfl
        have nb2 : (b == []) = false := by cases b with
          | nil => cases hfb
          | cons x y => rfl
        obtain ⟨⟨v0, z0⟩, hp0⟩ : ∃ r, placeR a ma = r := ⟨_, rfl⟩
        by_cases hz0 : z0 = 0
        · subst hz0
          obtain ⟨⟨v1, z1⟩, hp1⟩ : ∃ r, placeR b mb = r := ⟨_, rfl⟩
          by_cases hz1 : z1 = 0
          · subst hz1
            have HR : Hid (cornerR l ⟨ma, mb, mc⟩ = (⟨v0, v1, -1⟩, 0)) := Lib.hid (by rw [HCR.out]; simp [refForm, partR, hwa, hfa, hwb, hfb, hp0, hp1])
            go_enter Tryd.func29, Tryd.ntmps29
            go_wp2_with fail
            refine (KCUT.out _).mono ?_
            clear KCUT
            rintro e w1 ⟨hb1, A, n, c', rfl, hS⟩
            have HC := Lib.hid (HC0.out.grown hb1)
            have hn := hS.length
            clear hb1 HC0
            rw [hls] at hS hn
            obtain rfl : n = 2 := by simpa using hn.symm
            clear hn
            obtain ⟨ad0, x0, rfl, hb0, hx0, _, p0⟩ := hS.get (k := 0) (by omega)
            obtain rfl : a = x0 := by simpa using hx0
            clear hx0
            obtain ⟨ad1, x1, e1, hb1, hx1, _, p1⟩ := hS.get (k := 1) (by omega)
            obtain rfl : ad0 = ad1 := by injection e1
            clear e1
            obtain rfl : b = x1 := by simpa using hx1
            clear hx1
            rw [show ad0.add 0 = ad0 from rfl] at p0
            have P0 := Lib.hid p0
            rw [addr_off ad0 (by decide)] at p1
            have P1 := Lib.hid p1
            have KWa := Lib.hid (fun W => KW.out a W (by simp))
            rw [hwa] at KWa
            have KWb := Lib.hid (fun W => KW.out b W (by simp))
            rw [hwb] at KWb
            clear KW
            go_wp2_with fail
            refine (KWa.out _).mono ?_
            clear KWa
            rintro e wx ⟨rfl, hwx⟩; obtain rfl := hwx.symm
            go_wp2_with fail
            refine (KWb.out _).mono ?_
            clear KWb
            rintro e wx ⟨rfl, hwx⟩; obtain rfl := hwx.symm
            have hbb : Below w1.heap.size w1 (w1.alloc (.cells #[.int .i64 (-1), .int .i64 (-1), .int .i64 (-1)] 26)) := (Below.refl _ _).alloc (Nat.le_refl _) _
            have HT := Lib.hid (SlotN.new w1 [.int .i64 (-1), .int .i64 (-1), .int .i64 (-1)] #[.int .i64 (-1), .int .i64 (-1), .int .i64 (-1)] 26 rfl)
            have HCn := Lib.hid (HC.out.grown hbb)
            have HBW := Lib.hid hbb
            have hlw := HC.out.lt
            clear hbb HC
            have HC := HCn
            clear HCn
            clear p0
            have p0 := (HBW.out.cell (p := ad0) hb0).trans P0.out
            clear p1
            have p1 := (HBW.out.cell (p := ⟨ad0.block, ad0.off + 1, none⟩) hb0).trans P1.out
            go_wp2_with fail
            generalize hW2 : w1.alloc (.cells #[.int .i64 (-1), .int .i64 (-1), .int .i64 (-1)] 26) = W2 at *
            clear hW2
            have KPx := Lib.hid (fun W => KP.out a ma W (by simp) HBM.out.1)
            rw [hp0] at KPx
            dsimp only at KPx
            refine (KPx.out _).mono ?_
            clear KPx
            rintro e wx ⟨rfl, hwx⟩; obtain rfl := hwx.symm
            have t0' := HT.out.c 0 _ rfl
            have g0 := HT.out.f 0
            have HTn := Lib.hid (HT.out.set3 0 (by decide) (.int .i64 v0))
            have HCn := Lib.hid (HC.out.other w1.heap.size 0 hlw (.int .i64 v0))
            have HBn := Lib.hid (HBW.out.setCell (p := ⟨w1.heap.size, 0, none⟩) (Nat.le_refl _) (.int .i64 v0))
            clear HT HC HBW
            have HT := HTn
            have HC := HCn
            have HBW := HBn
            clear HTn HCn HBn
            have q0 := (HBW.out.cell (p := ad0) hb0).trans P0.out
            have q1 := (HBW.out.cell (p := ⟨ad0.block, ad0.off + 1, none⟩) hb0).trans P1.out
            go_wp2_with fail
            generalize hW3 : W2.setCell ⟨w1.heap.size, 0, none⟩ (.int .i64 v0) = W3 at *
            clear hW3 t0' g0
            have KPx := Lib.hid (fun W => KP.out b mb W (by simp) HBM.out.2.1)
            rw [hp1] at KPx
            dsimp only at KPx
            refine (KPx.out _).mono ?_
            clear KPx
            rintro e wx ⟨rfl, hwx⟩; obtain rfl := hwx.symm
            have t1' := HT.out.c 1 _ rfl
            have g1 := HT.out.f 1
            have HTn := Lib.hid (HT.out.set3 1 (by decide) (.int .i64 v1))
            have HCn := Lib.hid (HC.out.other w1.heap.size 1 hlw (.int .i64 v1))
            have HBn := Lib.hid (HBW.out.setCell (p := ⟨w1.heap.size, 1, none⟩) (Nat.le_refl _) (.int .i64 v1))
            clear HT HC HBW
            have HT := HTn
            have HC := HCn
            have HBW := HBn
            clear HTn HCn HBn
            have q0 := (HBW.out.cell (p := ad0) hb0).trans P0.out
            have q1 := (HBW.out.cell (p := ⟨ad0.block, ad0.off + 1, none⟩) hb0).trans P1.out
            have s0 := HT.out.c 0 _ rfl
            have s1 := HT.out.c 1 _ rfl
            have s2 := HT.out.c 2 _ rfl
            have HC2 := Lib.hid (HC.out.put v0 v1 (-1))
            have c0 := HC.out.r.c 0 _ rfl
            have c1 := HC.out.r.c 1 _ rfl
            have c2 := HC.out.r.c 2 _ rfl
            have f0 := HC.out.r.f 0
            have f1 := HC.out.r.f 1
            have f2 := HC.out.r.f 2
            go_wp2_with fail
            generalize World.setCell _ ⟨w.heap.size, 2, none⟩ (.int .i64 (-1)) = V at *
            clear c0 c1 c2 f0 f1 f2
            have e0 := HC2.out.r.c 0 _ rfl
            have e1 := HC2.out.r.c 1 _ rfl
            have e2 := HC2.out.r.c 2 _ rfl
            exact bodyPost_ret (v := .tuple #[p3V ⟨v0, v1, (-1)⟩, .int .i64 0]) (by simp [results, Tryd.results29, go_sem, e0, e1, e2, p3V]) rfl (FIN.out _ _ _ HR.out HC2.out.below)
          · have nz : (z1 != 0) = true := by rw [bne_iff_ne]; exact hz1
            have HR : Hid (cornerR l ⟨ma, mb, mc⟩ = (⟨0, 0, 0⟩, z1)) := Lib.hid (by rw [HCR.out]; simp [refForm, partR, hwa, hfa, hwb, hfb, hp0, hp1, hz1])
            clear hz1
            go_enter Tryd.func29, Tryd.ntmps29
            go_wp2_with fail
            refine (KCUT.out _).mono ?_
            clear KCUT
            rintro e w1 ⟨hb1, A, n, c', rfl, hS⟩
            have HC := Lib.hid (HC0.out.grown hb1)
            have hn := hS.length
            clear hb1 HC0
            rw [hls] at hS hn
            obtain rfl : n = 2 := by simpa using hn.symm
            clear hn
            obtain ⟨ad0, x0, rfl, hb0, hx0, _, p0⟩ := hS.get (k := 0) (by omega)
            obtain rfl : a = x0 := by simpa using hx0
            clear hx0
            obtain ⟨ad1, x1, e1, hb1, hx1, _, p1⟩ := hS.get (k := 1) (by omega)
            obtain rfl : ad0 = ad1 := by injection e1
            clear e1
            obtain rfl : b = x1 := by simpa using hx1
            clear hx1
            rw [show ad0.add 0 = ad0 from rfl] at p0
            have P0 := Lib.hid p0
            rw [addr_off ad0 (by decide)] at p1
            have P1 := Lib.hid p1
            have KWa := Lib.hid (fun W => KW.out a W (by simp))
            rw [hwa] at KWa
            have KWb := Lib.hid (fun W => KW.out b W (by simp))
            rw [hwb] at KWb
            clear KW
            go_wp2_with fail
            refine (KWa.out _).mono ?_
            clear KWa
            rintro e wx ⟨rfl, hwx⟩; obtain rfl := hwx.symm
            go_wp2_with fail
            refine (KWb.out _).mono ?_
            clear KWb
            rintro e wx ⟨rfl, hwx⟩; obtain rfl := hwx.symm
            have hbb : Below w1.heap.size w1 (w1.alloc (.cells #[.int .i64 (-1), .int .i64 (-1), .int .i64 (-1)] 26)) := (Below.refl _ _).alloc (Nat.le_refl _) _
            have HT := Lib.hid (SlotN.new w1 [.int .i64 (-1), .int .i64 (-1), .int .i64 (-1)] #[.int .i64 (-1), .int .i64 (-1), .int .i64 (-1)] 26 rfl)
            have HCn := Lib.hid (HC.out.grown hbb)
            have HBW := Lib.hid hbb
            have hlw := HC.out.lt
            clear hbb HC
            have HC := HCn
            clear HCn
            clear p0
            have p0 := (HBW.out.cell (p := ad0) hb0).trans P0.out
            clear p1
            have p1 := (HBW.out.cell (p := ⟨ad0.block, ad0.off + 1, none⟩) hb0).trans P1.out
            go_wp2_with fail
            generalize hW2 : w1.alloc (.cells #[.int .i64 (-1), .int .i64 (-1), .int .i64 (-1)] 26) = W2 at *
            clear hW2
            have KPx := Lib.hid (fun W => KP.out a ma W (by simp) HBM.out.1)
            rw [hp0] at KPx
            dsimp only at KPx
            refine (KPx.out _).mono ?_
            clear KPx
            rintro e wx ⟨rfl, hwx⟩; obtain rfl := hwx.symm
            have t0' := HT.out.c 0 _ rfl
            have g0 := HT.out.f 0
            have HTn := Lib.hid (HT.out.set3 0 (by decide) (.int .i64 v0))
            have HCn := Lib.hid (HC.out.other w1.heap.size 0 hlw (.int .i64 v0))
            have HBn := Lib.hid (HBW.out.setCell (p := ⟨w1.heap.size, 0, none⟩) (Nat.le_refl _) (.int .i64 v0))
            clear HT HC HBW
            have HT := HTn
            have HC := HCn
            have HBW := HBn
            clear HTn HCn HBn
            have q0 := (HBW.out.cell (p := ad0) hb0).trans P0.out
            have q1 := (HBW.out.cell (p := ⟨ad0.block, ad0.off + 1, none⟩) hb0).trans P1.out
            go_wp2_with fail
            generalize hW3 : W2.setCell ⟨w1.heap.size, 0, none⟩ (.int .i64 v0) = W3 at *
            clear hW3 t0' g0
            have KPx := Lib.hid (fun W => KP.out b mb W (by simp) HBM.out.2.1)
            rw [hp1] at KPx
            dsimp only at KPx
            refine (KPx.out _).mono ?_
            clear KPx
            rintro e wx ⟨rfl, hwx⟩; obtain rfl := hwx.symm
            have HC2 := Lib.hid (HC.out.put 0 0 0)
            have c0 := HC.out.r.c 0 _ rfl
            have c1 := HC.out.r.c 1 _ rfl
            have c2 := HC.out.r.c 2 _ rfl
            have f0 := HC.out.r.f 0
            have f1 := HC.out.r.f 1
            have f2 := HC.out.r.f 2
            go_wp2_with fail
            generalize World.setCell _ ⟨w.heap.size, 2, none⟩ (.int .i64 0) = V at *
            clear c0 c1 c2 f0 f1 f2
            have e0 := HC2.out.r.c 0 _ rfl
            have e1 := HC2.out.r.c 1 _ rfl
            have e2 := HC2.out.r.c 2 _ rfl
            exact bodyPost_ret (v := .tuple #[p3V ⟨0, 0, 0⟩, .int .i64 z1]) (by simp [results, Tryd.results29, go_sem, e0, e1, e2, p3V]) rfl (FIN.out _ _ _ HR.out HC2.out.below)
        · have nz : (z0 != 0) = true := by rw [bne_iff_ne]; exact hz0
          have HR : Hid (cornerR l ⟨ma, mb, mc⟩ = (⟨0, 0, 0⟩, z0)) := Lib.hid (by rw [HCR.out]; simp [refForm, partR, hwa, hfa, hwb, hfb, hp0, hz0])
          clear hz0
          go_enter Tryd.func29, Tryd.ntmps29
          go_wp2_with fail
          refine (KCUT.out _).mono ?_
          clear KCUT
          rintro e w1 ⟨hb1, A, n, c', rfl, hS⟩
          have HC := Lib.hid (HC0.out.grown hb1)
          have hn := hS.length
          clear hb1 HC0
          rw [hls] at hS hn
          obtain rfl : n = 2 := by simpa using hn.symm
          clear hn
          obtain ⟨ad0, x0, rfl, hb0, hx0, _, p0⟩ := hS.get (k := 0) (by omega)
          obtain rfl : a = x0 := by simpa using hx0
          clear hx0
          obtain ⟨ad1, x1, e1, hb1, hx1, _, p1⟩ := hS.get (k := 1) (by omega)
          obtain rfl : ad0 = ad1 := by injection e1
          clear e1
          obtain rfl : b = x1 := by simpa using hx1
          clear hx1
          rw [show ad0.add 0 = ad0 from rfl] at p0
          have P0 := Lib.hid p0
          rw [addr_off ad0 (by decide)] at p1
          have P1 := Lib.hid p1
          have KWa := Lib.hid (fun W => KW.out a W (by simp))
          rw [hwa] at KWa
          have KWb := Lib.hid (fun W => KW.out b W (by simp))
          rw [hwb] at KWb
          clear KW
          go_wp2_with fail
          refine (KWa.out _).mono ?_
          clear KWa
          rintro e wx ⟨rfl, hwx⟩; obtain rfl := hwx.symm
          go_wp2_with fail
          refine (KWb.out _).mono ?_
          clear KWb
          rintro e wx ⟨rfl, hwx⟩; obtain rfl := hwx.symm
          have hbb : Below w1.heap.size w1 (w1.alloc (.cells #[.int .i64 (-1), .int .i64 (-1), .int .i64 (-1)] 26)) := (Below.refl _ _).alloc (Nat.le_refl _) _
          have HT := Lib.hid (SlotN.new w1 [.int .i64 (-1), .int .i64 (-1), .int .i64 (-1)] #[.int .i64 (-1), .int .i64 (-1), .int .i64 (-1)] 26 rfl)
          have HCn := Lib.hid (HC.out.grown hbb)
          have HBW := Lib.hid hbb
          have hlw := HC.out.lt
          clear hbb HC
          have HC := HCn
          clear HCn
          clear p0
          have p0 := (HBW.out.cell (p := ad0) hb0).trans P0.out
          clear p1
          have p1 := (HBW.out.cell (p := ⟨ad0.block, ad0.off + 1, none⟩) hb0).trans P1.out
          go_wp2_with fail
          generalize hW2 : w1.alloc (.cells #[.int .i64 (-1), .int .i64 (-1), .int .i64 (-1)] 26) = W2 at *
          clear hW2
          have KPx := Lib.hid (fun W => KP.out a ma W (by simp) HBM.out.1)
          rw [hp0] at KPx
          dsimp only at KPx
          refine (KPx.out _).mono ?_
          clear KPx
          rintro e wx ⟨rfl, hwx⟩; obtain rfl := hwx.symm
          have HC2 := Lib.hid (HC.out.put 0 0 0)
          have c0 := HC.out.r.c 0 _ rfl
          have c1 := HC.out.r.c 1 _ rfl
          have c2 := HC.out.r.c 2 _ rfl
          have f0 := HC.out.r.f 0
          have f1 := HC.out.r.f 1
          have f2 := HC.out.r.f 2
          go_wp2_with fail
          generalize World.setCell _ ⟨w.heap.size, 2, none⟩ (.int .i64 0) = V at *
          clear c0 c1 c2 f0 f1 f2
          have e0 := HC2.out.r.c 0 _ rfl
          have e1 := HC2.out.r.c 1 _ rfl
          have e2 := HC2.out.r.c 2 _ rfl
          exact bodyPost_ret (v := .tuple #[p3V ⟨0, 0, 0⟩, .int .i64 z0]) (by simp [results, Tryd.results29, go_sem, e0, e1, e2, p3V]) rfl (FIN.out _ _ _ HR.out HC2.out.below)
  | [a, b, c], hls, _, KW, KP, HCR =>
    cases hwa : wholeOk a with
    | false =>
      have HR : Hid (cornerR l ⟨ma, mb, mc⟩ = (⟨0, 0, 0⟩, 6)) := Lib.hid (by rw [HCR.out]; simp [refForm, partR, hwa])
      go_enter Tryd.func29, Tryd.ntmps29
      go_wp2_with fail
      refine (KCUT.out _).mono ?_
      clear KCUT
      rintro e w1 ⟨hb1, A, n, c', rfl, hS⟩
      have HC := Lib.hid (HC0.out.grown hb1)
      have hn := hS.length
      clear hb1 HC0
      rw [hls] at hS hn
      obtain rfl : n = 3 := by simpa using hn.symm
      clear hn
      obtain ⟨ad0, x0, rfl, hb0, hx0, _, p0⟩ := hS.get (k := 0) (by omega)
      obtain rfl : a = x0 := by simpa using hx0
      clear hx0
      obtain ⟨ad1, x1, e1, hb1, hx1, _, p1⟩ := hS.get (k := 1) (by omega)
      obtain rfl : ad0 = ad1 := by injection e1
      clear e1
      obtain rfl : b = x1 := by simpa using hx1
      clear hx1
      obtain ⟨ad2, x2, e2, hb2, hx2, _, p2⟩ := hS.get (k := 2) (by omega)
      obtain rfl : ad0 = ad2 := by injection e2
      clear e2
      obtain rfl : c = x2 := by simpa using hx2
      clear hx2
      rw [show ad0.add 0 = ad0 from rfl] at p0
      have P0 := Lib.hid p0
      rw [addr_off ad0 (by decide)] at p1
      have P1 := Lib.hid p1
      rw [addr_off ad0 (by decide)] at p2
      have P2 := Lib.hid p2
      have KWa := Lib.hid (fun W => KW.out a W (by simp))
      rw [hwa] at KWa
      clear KW
      have HC2 := Lib.hid (HC.out.put 0 0 0)
      have c0 := HC.out.r.c 0 _ rfl
      have c1 := HC.out.r.c 1 _ rfl
      have c2 := HC.out.r.c 2 _ rfl
      have f0 := HC.out.r.f 0
      have f1 := HC.out.r.f 1
      have f2 := HC.out.r.f 2
      go_wp2_with fail
      refine (KWa.out _).mono ?_
      clear KWa
      rintro e wx ⟨rfl, hwx⟩; obtain rfl := hwx.symm
      go_wp2_with fail
      generalize World.setCell _ ⟨w.heap.size, 2, none⟩ (.int .i64 0) = V at *
      clear c0 c1 c2 f0 f1 f2
      have e0 := HC2.out.r.c 0 _ rfl
      have e1 := HC2.out.r.c 1 _ rfl
      have e2 := HC2.out.r.c 2 _ rfl
      exact bodyPost_ret (v := .tuple #[p3V ⟨0, 0, 0⟩, .int .i64 6]) (by simp [results, Tryd.results29, go_sem, e0, e1, e2, p3V]) rfl (FIN.out _ _ _ HR.out HC2.out.below)
    | true =>
      have hfa := whole_full hwa
      by_cases hbe : b = []
      · have nb : (b != []) = false := by rw [hbe]; rfl
        have nb2 : (b == []) = true := by rw [hbe]; rfl
        cases hwc : wholeOk c with
        | false =>
          have HR : Hid (cornerR l ⟨ma, mb, mc⟩ = (⟨0, 0, 0⟩, 6)) := Lib.hid (by rw [HCR.out]; simp [refForm, partR, hwa, hfa, hbe, hwc])
          go_enter Tryd.func29, Tryd.ntmps29
          go_wp2_with fail
          refine (KCUT.out _).mono ?_
          clear KCUT
          rintro e w1 ⟨hb1, A, n, c', rfl, hS⟩
          have HC := Lib.hid (HC0.out.grown hb1)
          have hn := hS.length
          clear hb1 HC0
          rw [hls] at hS hn
          obtain rfl : n = 3 := by simpa using hn.symm
          clear hn
          obtain ⟨ad0, x0, rfl, hb0, hx0, _, p0⟩ := hS.get (k := 0) (by omega)
          obtain rfl : a = x0 := by simpa using hx0
          clear hx0
          obtain ⟨ad1, x1, e1, hb1, hx1, _, p1⟩ := hS.get (k := 1) (by omega)
          obtain rfl : ad0 = ad1 := by injection e1
          clear e1
          obtain rfl : b = x1 := by simpa using hx1
          clear hx1
          obtain ⟨ad2, x2, e2, hb2, hx2, _, p2⟩ := hS.get (k := 2) (by omega)
          obtain rfl : ad0 = ad2 := by injection e2
          clear e2
          obtain rfl : c = x2 := by simpa using hx2
          clear hx2
          rw [show ad0.add 0 = ad0 from rfl] at p0
          have P0 := Lib.hid p0
          rw [addr_off ad0 (by decide)] at p1
          have P1 := Lib.hid p1
          rw [addr_off ad0 (by decide)] at p2
          have P2 := Lib.hid p2
          have KWa := Lib.hid (fun W => KW.out a W (by simp))
          rw [hwa] at KWa
          have KWc := Lib.hid (fun W => KW.out c W (by simp))
          rw [hwc] at KWc
          clear KW
          have HC2 := Lib.hid (HC.out.put 0 0 0)
          have c0 := HC.out.r.c 0 _ rfl
          have c1 := HC.out.r.c 1 _ rfl
          have c2 := HC.out.r.c 2 _ rfl
          have f0 := HC.out.r.f 0
          have f1 := HC.out.r.f 1
          have f2 := HC.out.r.f 2
          go_wp2_with fail
          refine (KWa.out _).mono ?_
          clear KWa
          rintro e wx ⟨rfl, hwx⟩; obtain rfl := hwx.symm
          go_wp2_with fail
          refine (KWc.out _).mono ?_
          clear KWc
          rintro e wx ⟨rfl, hwx⟩; obtain rfl := hwx.symm
          go_wp2_with fail
          generalize World.setCell _ ⟨w.heap.size, 2, none⟩ (.int .i64 0) = V at *
          clear c0 c1 c2 f0 f1 f2
          have e0 := HC2.out.r.c 0 _ rfl
          have e1 := HC2.out.r.c 1 _ rfl
          have e2 := HC2.out.r.c 2 _ rfl
          exact bodyPost_ret (v := .tuple #[p3V ⟨0, 0, 0⟩, .int .i64 6]) (by simp [results, Tryd.results29, go_sem, e0, e1, e2, p3V]) rfl (FIN.out _ _ _ HR.out HC2.out.below)
        | true =>
          have hfc := whole_full hwc
          obtain ⟨⟨v0, z0⟩, hp0⟩ : ∃ r, placeR a ma = r := ⟨_, rfl⟩
          by_cases hz0 : z0 = 0
          · subst hz0
            obtain ⟨⟨v2, z2⟩, hp2⟩ : ∃ r, placeR c mc = r := ⟨_, rfl⟩
            by_cases hz2 : z2 = 0
            · subst hz2
              have HR : Hid (cornerR l ⟨ma, mb, mc⟩ = (⟨v0, -1, v2⟩, 0)) := Lib.hid (by rw [HCR.out]; simp [refForm, partR, hwa, hfa, hbe, hwc, hfc, hp0, hp2])
              go_enter Tryd.func29, Tryd.ntmps29
              go_wp2_with fail
              refine (KCUT.out _).mono ?_
              clear KCUT
              rintro e w1 ⟨hb1, A, n, c', rfl, hS⟩
              have HC := Lib.hid (HC0.out.grown hb1)
              have hn := hS.length
              clear hb1 HC0
              rw [hls] at hS hn
              obtain rfl : n = 3 := by simpa using hn.symm
              clear hn
              obtain ⟨ad0, x0, rfl, hb0, hx0, _, p0⟩ := hS.get (k := 0) (by omega)
              obtain rfl : a = x0 := by simpa using hx0
              clear hx0
              obtain ⟨ad1, x1, e1, hb1, hx1, _, p1⟩ := hS.get (k := 1) (by omega)
              obtain rfl : ad0 = ad1 := by injection e1
              clear e1
              obtain rfl : b = x1 := by simpa using hx1
              clear hx1
              obtain ⟨ad2, x2, e2, hb2, hx2, _, p2⟩ := hS.get (k := 2) (by omega)
              obtain rfl : ad0 = ad2 := by injection e2
              clear e2
              obtain rfl : c = x2 := by simpa using hx2
              clear hx2
              rw [show ad0.add 0 = ad0 from rfl] at p0
              have P0 := Lib.hid p0
              rw [addr_off ad0 (by decide)] at p1
              have P1 := Lib.hid p1
              rw [addr_off ad0 (by decide)] at p2
              have P2 := Lib.hid p2
              have KWa := Lib.hid (fun W => KW.out a W (by simp))
              rw [hwa] at KWa
              have KWc := Lib.hid (fun W => KW.out c W (by simp))
              rw [hwc] at KWc
              clear KW
              go_wp2_with fail
              refine (KWa.out _).mono ?_
              clear KWa
              rintro e wx ⟨rfl, hwx⟩; obtain rfl := hwx.symm
              go_wp2_with fail
              refine (KWc.out _).mono ?_
              clear KWc
              rintro e wx ⟨rfl, hwx⟩; obtain rfl := hwx.symm
              have hbb : Below w1.heap.size w1 (w1.alloc (.cells #[.int .i64 (-1), .int .i64 (-1), .int .i64 (-1)] 26)) := (Below.refl _ _).alloc (Nat.le_refl _) _
              have HT := Lib.hid (SlotN.new w1 [.int .i64 (-1), .int .i64 (-1), .int .i64 (-1)] #[.int .i64 (-1), .int .i64 (-1), .int .i64 (-1)] 26 rfl)
              have HCn := Lib.hid (HC.out.grown hbb)
              have HBW := Lib.hid hbb
              have hlw := HC.out.lt
              clear hbb HC
              have HC := HCn
              clear HCn
              clear p0
              have p0 := (HBW.out.cell (p := ad0) hb0).trans P0.out
              clear p1
              have p1 := (HBW.out.cell (p := ⟨ad0.block, ad0.off + 1, none⟩) hb0).trans P1.out
              clear p2
              have p2 := (HBW.out.cell (p := ⟨ad0.block, ad0.off + 2, none⟩) hb0).trans P2.out
              go_wp2_with fail
              generalize hW2 : w1.alloc (.cells #[.int .i64 (-1), .int .i64 (-1), .int .i64 (-1)] 26) = W2 at *
              clear hW2
              have KPx := Lib.hid (fun W => KP.out a ma W (by simp) HBM.out.1)
              rw [hp0] at KPx
              dsimp only at KPx
              refine (KPx.out _).mono ?_
              clear KPx
              rintro e wx ⟨rfl, hwx⟩; obtain rfl := hwx.symm
              have t0' := HT.out.c 0 _ rfl
              have g0 := HT.out.f 0
              have HTn := Lib.hid (HT.out.set3 0 (by decide) (.int .i64 v0))
              have HCn := Lib.hid (HC.out.other w1.heap.size 0 hlw (.int .i64 v0))
              have HBn := Lib.hid (HBW.out.setCell (p := ⟨w1.heap.size, 0, none⟩) (Nat.le_refl _) (.int .i64 v0))
              clear HT HC HBW
              have HT := HTn
              have HC := HCn
              have HBW := HBn
              clear HTn HCn HBn
              have q0 := (HBW.out.cell (p := ad0) hb0).trans P0.out
              have q1 := (HBW.out.cell (p := ⟨ad0.block, ad0.off + 1, none⟩) hb0).trans P1.out
              have q2 := (HBW.out.cell (p := ⟨ad0.block, ad0.off + 2, none⟩) hb0).trans P2.out
              go_wp2_with fail
              generalize hW3 : W2.setCell ⟨w1.heap.size, 0, none⟩ (.int .i64 v0) = W3 at *
              clear hW3 t0' g0
              have KPx := Lib.hid (fun W => KP.out c mc W (by simp) HBM.out.2.2)
              rw [hp2] at KPx
              dsimp only at KPx
              refine (KPx.out _).mono ?_
              clear KPx
              rintro e wx ⟨rfl, hwx⟩; obtain rfl := hwx.symm
              have t2' := HT.out.c 2 _ rfl
              have g2 := HT.out.f 2
              have HTn := Lib.hid (HT.out.set3 2 (by decide) (.int .i64 v2))
              have HCn := Lib.hid (HC.out.other w1.heap.size 2 hlw (.int .i64 v2))
              have HBn := Lib.hid (HBW.out.setCell (p := ⟨w1.heap.size, 2, none⟩) (Nat.le_refl _) (.int .i64 v2))
              clear HT HC HBW
              have HT := HTn
              have HC := HCn
              have HBW := HBn
              clear HTn HCn HBn
              have q0 := (HBW.out.cell (p := ad0) hb0).trans P0.out
              have q1 := (HBW.out.cell (p := ⟨ad0.block, ad0.off + 1, none⟩) hb0).trans P1.out
              have q2 := (HBW.out.cell (p := ⟨ad0.block, ad0.off + 2, none⟩) hb0).trans P2.out
              have s0 := HT.out.c 0 _ rfl
              have s1 := HT.out.c 1 _ rfl
              have s2 := HT.out.c 2 _ rfl
              have HC2 := Lib.hid (HC.out.put v0 (-1) v2)
              have c0 := HC.out.r.c 0 _ rfl
              have c1 := HC.out.r.c 1 _ rfl
              have c2 := HC.out.r.c 2 _ rfl
              have f0 := HC.out.r.f 0
              have f1 := HC.out.r.f 1
              have f2 := HC.out.r.f 2
              go_wp2_with fail
              generalize World.setCell _ ⟨w.heap.size, 2, none⟩ (.int .i64 v2) = V at *
              clear c0 c1 c2 f0 f1 f2
              have e0 := HC2.out.r.c 0 _ rfl
              have e1 := HC2.out.r.c 1 _ rfl
              have e2 := HC2.out.r.c 2 _ rfl
              exact bodyPost_ret (v := .tuple #[p3V ⟨v0, (-1), v2⟩, .int .i64 0]) (by simp [results, Tryd.results29, go_sem, e0, e1, e2, p3V]) rfl (FIN.out _ _ _ HR.out HC2.out.below)
            · have nz : (z2 != 0) = true := by rw [bne_iff_ne]; exact hz2
              have HR : Hid (cornerR l ⟨ma, mb, mc⟩ = (⟨0, 0, 0⟩, z2)) := Lib.hid (by rw [HCR.out]; simp [refForm, partR, hwa, hfa, hbe, hwc, hfc, hp0, hp2, hz2])
              clear hz2
              go_enter Tryd.func29, Tryd.ntmps29
              go_wp2_with fail
              refine (KCUT.out _).mono ?_
              clear KCUT
              rintro e w1 ⟨hb1, A, n, c', rfl, hS⟩
              have HC := Lib.hid (HC0.out.grown hb1)
              have hn := hS.length
              clear hb1 HC0
              rw [hls] at hS hn
              obtain rfl : n = 3 := by simpa using hn.symm
              clear hn
              obtain ⟨ad0, x0, rfl, hb0, hx0, _, p0⟩ := hS.get (k := 0) (by omega)
              obtain rfl : a = x0 := by simpa using hx0
              clear hx0
              obtain ⟨ad1, x1, e1, hb1, hx1, _, p1⟩ := hS.get (k := 1) (by omega)
              obtain rfl : ad0 = ad1 := by injection e1
              clear e1
              obtain rfl : b = x1 := by simpa using hx1
              clear hx1
              obtain ⟨ad2, x2, e2, hb2, hx2, _, p2⟩ := hS.get (k := 2) (by omega)
              obtain rfl : ad0 = ad2 := by injection e2
              clear e2
              obtain rfl : c = x2 := by simpa using hx2
              clear hx2
              rw [show ad0.add 0 = ad0 from rfl] at p0
              have P0 := Lib.hid p0
              rw [addr_off ad0 (by decide)] at p1
              have P1 := Lib.hid p1
              rw [addr_off ad0 (by decide)] at p2
              have P2 := Lib.hid p2
              have KWa := Lib.hid (fun W => KW.out a W (by simp))
              rw [hwa] at KWa
              have KWc := Lib.hid (fun W => KW.out c W (by simp))
              rw [hwc] at KWc
              clear KW
              go_wp2_with fail
              refine (KWa.out _).mono ?_
              clear KWa
              rintro e wx ⟨rfl, hwx⟩; obtain rfl := hwx.symm
              go_wp2_with fail
              refine (KWc.out _).mono ?_
              clear KWc
              rintro e wx ⟨rfl, hwx⟩; obtain rfl := hwx.symm
              have hbb : Below w1.heap.size w1 (w1.alloc (.cells #[.int .i64 (-1), .int .i64 (-1), .int .i64 (-1)] 26)) := (Below.refl _ _).alloc (Nat.le_refl _) _
              have HT := Lib.hid (SlotN.new w1 [.int .i64 (-1), .int .i64 (-1), .int .i64 (-1)] #[.int .i64 (-1), .int .i64 (-1), .int .i64 (-1)] 26 rfl)
              have HCn := Lib.hid (HC.out.grown hbb)
              have HBW := Lib.hid hbb
              have hlw := HC.out.lt
              clear hbb HC
              have HC := HCn
              clear HCn
              clear p0
              have p0 := (HBW.out.cell (p := ad0) hb0).trans P0.out
              clear p1
              have p1 := (HBW.out.cell (p := ⟨ad0.block, ad0.off + 1, none⟩) hb0).trans P1.out
              clear p2
              have p2 := (HBW.out.cell (p := ⟨ad0.block, ad0.off + 2, none⟩) hb0).trans P2.out
              go_wp2_with fail
              generalize hW2 : w1.alloc (.cells #[.int .i64 (-1), .int .i64 (-1), .int .i64 (-1)] 26) = W2 at *
              clear hW2
              have KPx := Lib.hid (fun W => KP.out a ma W (by simp) HBM.out.1)
              rw [hp0] at KPx
              dsimp only at KPx
              refine (KPx.out _).mono ?_
              clear KPx
              rintro e wx ⟨rfl, hwx⟩; obtain rfl := hwx.symm
              have t0' := HT.out.c 0 _ rfl
              have g0 := HT.out.f 0
              have HTn := Lib.hid (HT.out.set3 0 (by decide) (.int .i64 v0))
              have HCn := Lib.hid (HC.out.other w1.heap.size 0 hlw (.int .i64 v0))
              have HBn := Lib.hid (HBW.out.setCell (p := ⟨w1.heap.size, 0, none⟩) (Nat.le_refl _) (.int .i64 v0))
              clear HT HC HBW
              have HT := HTn
              have HC := HCn
              have HBW := HBn
              clear HTn HCn HBn
              have q0 := (HBW.out.cell (p := ad0) hb0).trans P0.out
              have q1 := (HBW.out.cell (p := ⟨ad0.block, ad0.off + 1, none⟩) hb0).trans P1.out
              have q2 := (HBW.out.cell (p := ⟨ad0.block, ad0.off + 2, none⟩) hb0).trans P2.out
              go_wp2_with fail
              generalize hW3 : W2.setCell ⟨w1.heap.size, 0, none⟩ (.int .i64 v0) = W3 at *
              clear hW3 t0' g0
              have KPx := Lib.hid (fun W => KP.out c mc W (by simp) HBM.out.2.2)
              rw [hp2] at KPx
              dsimp only at KPx
              refine (KPx.out _).mono ?_
              clear KPx
              rintro e wx ⟨rfl, hwx⟩; obtain rfl := hwx.symm
              have HC2 := Lib.hid (HC.out.put 0 0 0)
              have c0 := HC.out.r.c 0 _ rfl
              have c1 := HC.out.r.c 1 _ rfl
              have c2 := HC.out.r.c 2 _ rfl
              have f0 := HC.out.r.f 0
              have f1 := HC.out.r.f 1
              have f2 := HC.out.r.f 2
              go_wp2_with fail
              generalize World.setCell _ ⟨w.heap.size, 2, none⟩ (.int .i64 0) = V at *
              clear c0 c1 c2 f0 f1 f2
              have e0 := HC2.out.r.c 0 _ rfl
              have e1 := HC2.out.r.c 1 _ rfl
              have e2 := HC2.out.r.c 2 _ rfl
              exact bodyPost_ret (v := .tuple #[p3V ⟨0, 0, 0⟩, .int .i64 z2]) (by simp [results, Tryd.results29, go_sem, e0, e1, e2, p3V]) rfl (FIN.out _ _ _ HR.out HC2.out.below)
          · have nz : (z0 != 0) = true := by rw [bne_iff_ne]; exact hz0
            have HR : Hid (cornerR l ⟨ma, mb, mc⟩ = (⟨0, 0, 0⟩, z0)) := Lib.hid (by rw [HCR.out]; simp [refForm, partR, hwa, hfa, hbe, hwc, hfc, hp0, hz0])
            clear hz0
            go_enter Tryd.func29, Tryd.ntmps29
            go_wp2_with fail
            refine (KCUT.out _).mono ?_
            clear KCUT
            rintro e w1 ⟨hb1, A, n, c', rfl, hS⟩
            have HC := Lib.hid (HC0.out.grown hb1)
            have hn := hS.length
            clear hb1 HC0
            rw [hls] at hS hn
            obtain rfl : n = 3 := by simpa using hn.symm
            clear hn
            obtain ⟨ad0, x0, rfl, hb0, hx0, _, p0⟩ := hS.get (k := 0) (by omega)
            obtain rfl : a = x0 := by simpa using hx0
            clear hx0
            obtain ⟨ad1, x1, e1, hb1, hx1, _, p1⟩ := hS.get (k := 1) (by omega)
            obtain rfl : ad0 = ad1 := by injection e1
            clear e1
            obtain rfl : b = x1 := by simpa using hx1
            clear hx1
            obtain ⟨ad2, x2, e2, hb2, hx2, _, p2⟩ := hS.get (k := 2) (by omega)
            obtain rfl : ad0 = ad2 := by injection e2
            clear e2
            obtain rfl : c = x2 := by simpa using hx2
            clear hx2
            rw [show ad0.add 0 = ad0 from rfl] at p0
            have P0 := Lib.hid p0
            rw [addr_off ad0 (by decide)] at p1
            have P1 := Lib.hid p1
            rw [addr_off ad0 (by decide)] at p2
            have P2 := Lib.hid p2
            have KWa := Lib.hid (fun W => KW.out a W (by simp))
            rw [hwa] at KWa
            have KWc := Lib.hid (fun W => KW.out c W (by simp))
            rw [hwc] at KWc
            clear KW
            go_wp2_with fail
            refine (KWa.out _).mono ?_
            clear KWa
            rintro e wx ⟨rfl, hwx⟩; obtain rfl := hwx.symm
            go_wp2_with fail
            refine (KWc.out _).mono ?_
            clear KWc
            rintro e wx ⟨rfl, hwx⟩; obtain rfl := hwx.symm
            have hbb : Below w1.heap.size w1 (w1.alloc (.cells #[.int .i64 (-1), .int .i64 (-1), .int .i64 (-1)] 26)) := (Below.refl _ _).alloc (Nat.le_refl _) _
            have HT := Lib.hid (SlotN.new w1 [.int .i64 (-1), .int .i64 (-1), .int .i64 (-1)] #[.int .i64 (-1), .int .i64 (-1), .int .i64 (-1)] 26 rfl)
            have HCn := Lib.hid (HC.out.grown hbb)
            have HBW := Lib.hid hbb
            have hlw := HC.out.lt
            clear hbb HC
            have HC := HCn
            clear HCn
            clear p0
            have p0 := (HBW.out.cell (p := ad0) hb0).trans P0.out
            clear p1
            have p1 := (HBW.out.cell (p := ⟨ad0.block, ad0.off + 1, none⟩) hb0).trans P1.out
            clear p2
            have p2 := (HBW.out.cell (p := ⟨ad0.block, ad0.off + 2, none⟩) hb0).trans P2.out
            go_wp2_with fail
            generalize hW2 : w1.alloc (.cells #[.int .i64 (-1), .int .i64 (-1), .int .i64 (-1)] 26) = W2 at *
            clear hW2
            have KPx := Lib.hid (fun W => KP.out a ma W (by simp) HBM.out.1)
            rw [hp0] at KPx
            dsimp only at KPx
            refine (KPx.out _).mono ?_
            clear KPx
            rintro e wx ⟨rfl, hwx⟩; obtain rfl := hwx.symm
            have HC2 := Lib.hid (HC.out.put 0 0 0)
            have c0 := HC.out.r.c 0 _ rfl
            have c1 := HC.out.r.c 1 _ rfl
            have c2 := HC.out.r.c 2 _ rfl
            have f0 := HC.out.r.f 0
            have f1 := HC.out.r.f 1
            have f2 := HC.out.r.f 2
            go_wp2_with fail
            generalize World.setCell _ ⟨w.heap.size, 2, none⟩ (.int .i64 0) = V at *
            clear c0 c1 c2 f0 f1 f2
            have e0 := HC2.out.r.c 0 _ rfl
            have e1 := HC2.out.r.c 1 _ rfl
            have e2 := HC2.out.r.c 2 _ rfl
            exact bodyPost_ret (v := .tuple #[p3V ⟨0, 0, 0⟩, .int .i64 z0]) (by simp [results, Tryd.results29, go_sem, e0, e1, e2, p3V]) rfl (FIN.out _ _ _ HR.out HC2.out.below)
      · have hfb : b.isEmpty = false := by cases b with
          | nil => exact absurd rfl hbe
          | cons x y => rfl
        have nb : (b != []) = true := by cases b with
          | nil => cases hfb
          | cons x y => rfl
        have nb2 : (b == []) = false := by cases b with
          | nil => cases hfb
          | cons x y => rfl
        clear hbe
        cases hwb : wholeOk b with
        | false =>
          have HR : Hid (cornerR l ⟨ma, mb, mc⟩ = (⟨0, 0, 0⟩, 6)) := Lib.hid (by rw [HCR.out]; simp [refForm, partR, hwa, hfa, hfb, hwb])
          go_enter Tryd.func29, Tryd.ntmps29
          go_wp2_with fail
          refine (KCUT.out _).mono ?_
          clear KCUT
          rintro e w1 ⟨hb1, A, n, c', rfl, hS⟩
          have HC := Lib.hid (HC0.out.grown hb1)
          have hn := hS.length
          clear hb1 HC0
          rw [hls] at hS hn
          obtain rfl : n = 3 := by simpa using hn.symm
          clear hn
          obtain ⟨ad0, x0, rfl, hb0, hx0, _, p0⟩ := hS.get (k := 0) (by omega)
          obtain rfl : a = x0 := by simpa using hx0
          clear hx0
          obtain ⟨ad1, x1, e1, hb1, hx1, _, p1⟩ := hS.get (k := 1) (by omega)
          obtain rfl : ad0 = ad1 := by injection e1
          clear e1
          obtain rfl : b = x1 := by simpa using hx1
          clear hx1
          obtain ⟨ad2, x2, e2, hb2, hx2, _, p2⟩ := hS.get (k := 2) (by omega)
          obtain rfl : ad0 = ad2 := by injection e2
          clear e2
          obtain rfl : c = x2 := by simpa using hx2
          clear hx2
          rw [show ad0.add 0 = ad0 from rfl] at p0
          have P0 := Lib.hid p0
          rw [addr_off ad0 (by decide)] at p1
          have P1 := Lib.hid p1
          rw [addr_off ad0 (by decide)] at p2
          have P2 := Lib.hid p2
          have KWa := Lib.hid (fun W => KW.out a W (by simp))
          rw [hwa] at KWa
          have KWb := Lib.hid (fun W => KW.out b W (by simp))
          rw [hwb] at KWb
          clear KW
          have HC2 := Lib.hid (HC.out.put 0 0 0)
          have c0 := HC.out.r.c 0 _ rfl
          have c1 := HC.out.r.c 1 _ rfl
          have c2 := HC.out.r.c 2 _ rfl
          have f0 := HC.out.r.f 0
          have f1 := HC.out.r.f 1
          have f2 := HC.out.r.f 2
          go_wp2_with fail
          refine (KWa.out _).mono ?_
          clear KWa
          rintro e wx ⟨rfl, hwx⟩; obtain rfl := hwx.symm
          go_wp2_with fail
          refine (KWb.out _).mono ?_
          clear KWb
          rintro e wx ⟨rfl, hwx⟩; obtain rfl := hwx.symm
          go_wp2_with fail
          generalize World.setCell _ ⟨w.heap.size, 2, none⟩ (.int .i64 0) = V at *
          clear c0 c1 c2 f0 f1 f2
          have e0 := HC2.out.r.c 0 _ rfl
          have e1 := HC2.out.r.c 1 _ rfl
          have e2 := HC2.out.r.c 2 _ rfl
          exact bodyPost_ret (v := .tuple #[p3V ⟨0, 0, 0⟩, .int .i64 6]) (by simp [results, Tryd.results29, go_sem, e0, e1, e2, p3V]) rfl (FIN.out _ _ _ HR.out HC2.out.below)
        | true =>
          cases hwc : wholeOk c with
          | false =>
            have HR : Hid (cornerR l ⟨ma, mb, mc⟩ = (⟨0, 0, 0⟩, 6)) := Lib.hid (by rw [HCR.out]; simp [refForm, partR, hwa, hfa, hfb, hwb, hwc])
            go_enter Tryd.func29, Tryd.ntmps29
            go_wp2_with fail
            refine (KCUT.out _).mono ?_
            clear KCUT
            rintro e w1 ⟨hb1, A, n, c', rfl, hS⟩
            have HC := Lib.hid (HC0.out.grown hb1)
            have hn := hS.length
            clear hb1 HC0
            rw [hls] at hS hn
            obtain rfl : n = 3 := by simpa using hn.symm
            clear hn
            obtain ⟨ad0, x0, rfl, hb0, hx0, _, p0⟩ := hS.get (k := 0) (by omega)
            obtain rfl : a = x0 := by simpa using hx0
            clear hx0
            obtain ⟨ad1, x1, e1, hb1, hx1, _, p1⟩ := hS.get (k := 1) (by omega)
            obtain rfl : ad0 = ad1 := by injection e1
            clear e1
            obtain rfl : b = x1 := by simpa using hx1
            clear hx1
            obtain ⟨ad2, x2, e2, hb2, hx2, _, p2⟩ := hS.get (k := 2) (by omega)
            obtain rfl : ad0 = ad2 := by injection e2
            clear e2
            obtain rfl : c = x2 := by simpa using hx2
            clear hx2
            rw [show ad0.add 0 = ad0 from rfl] at p0
            have P0 := Lib.hid p0
            rw [addr_off ad0 (by decide)] at p1
            have P1 := Lib.hid p1
            rw [addr_off ad0 (by decide)] at p2
            have P2 := Lib.hid p2
            have KWa := Lib.hid (fun W => KW.out a W (by simp))
            rw [hwa] at KWa
            have KWb := Lib.hid (fun W => KW.out b W (by simp))
            rw [hwb] at KWb
            have KWc := Lib.hid (fun W => KW.out c W (by simp))
            rw [hwc] at KWc
            clear KW
            have HC2 := Lib.hid (HC.out.put 0 0 0)
            have c0 := HC.out.r.c 0 _ rfl
            have c1 := HC.out.r.c 1 _ rfl
            have c2 := HC.out.r.c 2 _ rfl
            have f0 := HC.out.r.f 0
            have f1 := HC.out.r.f 1
            have f2 := HC.out.r.f 2
            go_wp2_with fail
            refine (KWa.out _).mono ?_
            clear KWa
            rintro e wx ⟨rfl, hwx⟩; obtain rfl := hwx.symm
            go_wp2_with fail
            refine (KWb.out _).mono ?_
            clear KWb
            rintro e wx ⟨rfl, hwx⟩; obtain rfl := hwx.symm
            go_wp2_with fail
            refine (KWc.out _).mono ?_
            clear KWc
            rintro e wx ⟨rfl, hwx⟩; obtain rfl := hwx.symm
            go_wp2_with fail
            generalize World.setCell _ ⟨w.heap.size, 2, none⟩ (.int .i64 0) = V at *
            clear c0 c1 c2 f0 f1 f2
            have e0 := HC2.out.r.c 0 _ rfl
            have e1 := HC2.out.r.c 1 _ rfl
            have e2 := HC2.out.r.c 2 _ rfl
            exact bodyPost_ret (v := .tuple #[p3V ⟨0, 0, 0⟩, .int .i64 6]) (by simp [results, Tryd.results29, go_sem, e0, e1, e2, p3V]) rfl (FIN.out _ _ _ HR.out HC2.out.below)
          | true =>
            have hfc := whole_full hwc
            obtain ⟨⟨v0, z0⟩, hp0⟩ : ∃ r, placeR a ma = r := ⟨_, rfl⟩
            by_cases hz0 : z0 = 0
            · subst hz0
              obtain ⟨⟨v1, z1⟩, hp1⟩ : ∃ r, placeR b mb = r := ⟨_, rfl⟩
              by_cases hz1 : z1 = 0
              · subst hz1
                obtain ⟨⟨v2, z2⟩, hp2⟩ : ∃ r, placeR c mc = r := ⟨_, rfl⟩
                by_cases hz2 : z2 = 0
                · subst hz2
                  have HR : Hid (cornerR l ⟨ma, mb, mc⟩ = (⟨v0, v1, v2⟩, 0)) := Lib.hid (by rw [HCR.out]; simp [refForm, partR, hwa, hfa, hfb, hwb, hwc, hfc, hp0, hp1, hp2])
                  go_enter Tryd.func29, Tryd.ntmps29
                  go_wp2_with fail
                  refine (KCUT.out _).mono ?_
                  clear KCUT
                  rintro e w1 ⟨hb1, A, n, c', rfl, hS⟩
                  have HC := Lib.hid (HC0.out.grown hb1)
                  have hn := hS.length
                  clear hb1 HC0
                  rw [hls] at hS hn
                  obtain rfl : n = 3 := by simpa using hn.symm
                  clear hn
                  obtain ⟨ad0, x0, rfl, hb0, hx0, _, p0⟩ := hS.get (k := 0) (by omega)
                  obtain rfl : a = x0 := by simpa using hx0
                  clear hx0
                  obtain ⟨ad1, x1, e1, hb1, hx1, _, p1⟩ := hS.get (k := 1) (by omega)
                  obtain rfl : ad0 = ad1 := by injection e1
                  clear e1
                  obtain rfl : b = x1 := by simpa using hx1
                  clear hx1
                  obtain ⟨ad2, x2, e2, hb2, hx2, _, p2⟩ := hS.get (k := 2) (by omega)
                  obtain rfl : ad0 = ad2 := by injection e2
                  clear e2
                  obtain rfl : c = x2 := by simpa using hx2
                  clear hx2
                  rw [show ad0.add 0 = ad0 from rfl] at p0
                  have P0 := Lib.hid p0
                  rw [addr_off ad0 (by decide)] at p1
                  have P1 := Lib.hid p1
                  rw [addr_off ad0 (by decide)] at p2
                  have P2 := Lib.hid p2
                  have KWa := Lib.hid (fun W => KW.out a W (by simp))
                  rw [hwa] at KWa
                  have KWb := Lib.hid (fun W => KW.out b W (by simp))
                  rw [hwb] at KWb
                  have KWc := Lib.hid (fun W => KW.out c W (by simp))
                  rw [hwc] at KWc
                  clear KW
                  go_wp2_with fail
                  refine (KWa.out _).mono ?_
                  clear KWa
                  rintro e wx ⟨rfl, hwx⟩; obtain rfl := hwx.symm
                  go_wp2_with fail
                  refine (KWb.out _).mono ?_
                  clear KWb
                  rintro e wx ⟨rfl, hwx⟩; obtain rfl := hwx.symm
                  go_wp2_with fail
                  refine (KWc.out _).mono ?_
                  clear KWc
                  rintro e wx ⟨rfl, hwx⟩; obtain rfl := hwx.symm
                  have hbb : Below w1.heap.size w1 (w1.alloc (.cells #[.int .i64 (-1), .int .i64 (-1), .int .i64 (-1)] 26)) := (Below.refl _ _).alloc (Nat.le_refl _) _
                  have HT := Lib.hid (SlotN.new w1 [.int .i64 (-1), .int .i64 (-1), .int .i64 (-1)] #[.int .i64 (-1), .int .i64 (-1), .int .i64 (-1)] 26 rfl)
                  have HCn := Lib.hid (HC.out.grown hbb)
                  have HBW := Lib.hid hbb
                  have hlw := HC.out.lt
                  clear hbb HC
                  have HC := HCn
                  clear HCn
                  clear p0
                  have p0 := (HBW.out.cell (p := ad0) hb0).trans P0.out
                  clear p1
                  have p1 := (HBW.out.cell (p := ⟨ad0.block, ad0.off + 1, none⟩) hb0).trans P1.out
                  clear p2
                  have p2 := (HBW.out.cell (p := ⟨ad0.block, ad0.off + 2, none⟩) hb0).trans P2.out
                  go_wp2_with fail
                  generalize hW2 : w1.alloc (.cells #[.int .i64 (-1), .int .i64 (-1), .int .i64 (-1)] 26) = W2 at *
                  clear hW2
                  have KPx := Lib.hid (fun W => KP.out a ma W (by simp) HBM.out.1)
                  rw [hp0] at KPx
                  dsimp only at KPx
                  refine (KPx.out _).mono ?_
                  clear KPx
                  rintro e wx ⟨rfl, hwx⟩; obtain rfl := hwx.symm
                  have t0' := HT.out.c 0 _ rfl
                  have g0 := HT.out.f 0
                  have HTn := Lib.hid (HT.out.set3 0 (by decide) (.int .i64 v0))
                  have HCn := Lib.hid (HC.out.other w1.heap.size 0 hlw (.int .i64 v0))
                  have HBn := Lib.hid (HBW.out.setCell (p := ⟨w1.heap.size, 0, none⟩) (Nat.le_refl _) (.int .i64 v0))
                  clear HT HC HBW
                  have HT := HTn
                  have HC := HCn
                  have HBW := HBn
                  clear HTn HCn HBn
                  have q0 := (HBW.out.cell (p := ad0) hb0).trans P0.out
                  have q1 := (HBW.out.cell (p := ⟨ad0.block, ad0.off + 1, none⟩) hb0).trans P1.out
                  have q2 := (HBW.out.cell (p := ⟨ad0.block, ad0.off + 2, none⟩) hb0).trans P2.out
                  go_wp2_with fail
                  generalize hW3 : W2.setCell ⟨w1.heap.size, 0, none⟩ (.int .i64 v0) = W3 at *
                  clear hW3 t0' g0
                  have KPx := Lib.hid (fun W => KP.out b mb W (by simp) HBM.out.2.1)
                  rw [hp1] at KPx
                  dsimp only at KPx
                  refine (KPx.out _).mono ?_
                  clear KPx
                  rintro e wx ⟨rfl, hwx⟩; obtain rfl := hwx.symm
                  have t1' := HT.out.c 1 _ rfl
                  have g1 := HT.out.f 1
                  have HTn := Lib.hid (HT.out.set3 1 (by decide) (.int .i64 v1))
                  have HCn := Lib.hid (HC.out.other w1.heap.size 1 hlw (.int .i64 v1))
                  have HBn := Lib.hid (HBW.out.setCell (p := ⟨w1.heap.size, 1, none⟩) (Nat.le_refl _) (.int .i64 v1))
                  clear HT HC HBW
                  have HT := HTn
                  have HC := HCn
                  have HBW := HBn
                  clear HTn HCn HBn
                  have q0 := (HBW.out.cell (p := ad0) hb0).trans P0.out
                  have q1 := (HBW.out.cell (p := ⟨ad0.block, ad0.off + 1, none⟩) hb0).trans P1.out
                  have q2 := (HBW.out.cell (p := ⟨ad0.block, ad0.off + 2, none⟩) hb0).trans P2.out
                  go_wp2_with fail
                  generalize hW4 : W3.setCell ⟨w1.heap.size, 1, none⟩ (.int .i64 v1) = W4 at *
                  clear hW4 t1' g1
                  have KPx := Lib.hid (fun W => KP.out c mc W (by simp) HBM.out.2.2)
                  rw [hp2] at KPx
                  dsimp only at KPx
                  refine (KPx.out _).mono ?_
                  clear KPx
                  rintro e wx ⟨rfl, hwx⟩; obtain rfl := hwx.symm
                  have t2' := HT.out.c 2 _ rfl
                  have g2 := HT.out.f 2
                  have HTn := Lib.hid (HT.out.set3 2 (by decide) (.int .i64 v2))
                  have HCn := Lib.hid (HC.out.other w1.heap.size 2 hlw (.int .i64 v2))
                  have HBn := Lib.hid (HBW.out.setCell (p := ⟨w1.heap.size, 2, none⟩) (Nat.le_refl _) (.int .i64 v2))
                  clear HT HC HBW
                  have HT := HTn
                  have HC := HCn
                  have HBW := HBn
                  clear HTn HCn HBn
                  have q0 := (HBW.out.cell (p := ad0) hb0).trans P0.out
                  have q1 := (HBW.out.cell (p := ⟨ad0.block, ad0.off + 1, none⟩) hb0).trans P1.out
                  have q2 := (HBW.out.cell (p := ⟨ad0.block, ad0.off + 2, none⟩) hb0).trans P2.out
                  have s0 := HT.out.c 0 _ rfl
                  have s1 := HT.out.c 1 _ rfl
                  have s2 := HT.out.c 2 _ rfl
                  have HC2 := Lib.hid (HC.out.put v0 v1 v2)
                  have c0 := HC.out.r.c 0 _ rfl
                  have c1 := HC.out.r.c 1 _ rfl
                  have c2 := HC.out.r.c 2 _ rfl
                  have f0 := HC.out.r.f 0
                  have f1 := HC.out.r.f 1
                  have f2 := HC.out.r.f 2
                  go_wp2_with fail
                  generalize World.setCell _ ⟨w.heap.size, 2, none⟩ (.int .i64 v2) = V at *
                  clear c0 c1 c2 f0 f1 f2
                  have e0 := HC2.out.r.c 0 _ rfl
                  have e1 := HC2.out.r.c 1 _ rfl
                  have e2 := HC2.out.r.c 2 _ rfl
                  exact bodyPost_ret (v := .tuple #[p3V ⟨v0, v1, v2⟩, .int .i64 0]) (by simp [results, Tryd.results29, go_sem, e0, e1, e2, p3V]) rfl (FIN.out _ _ _ HR.out HC2.out.below)
                · have nz : (z2 != 0) = true := by rw [bne_iff_ne]; exact hz2
                  have HR : Hid (cornerR l ⟨ma, mb, mc⟩ = (⟨0, 0, 0⟩, z2)) := Lib.hid (by rw [HCR.out]; simp [refForm, partR, hwa, hfa, hfb, hwb, hwc, hfc, hp0, hp1, hp2, hz2])
                  clear hz2
                  go_enter Tryd.func29, Tryd.ntmps29
                  go_wp2_with fail
                  refine (KCUT.out _).mono ?_
                  clear KCUT
                  rintro e w1 ⟨hb1, A, n, c', rfl, hS⟩
                  have HC := Lib.hid (HC0.out.grown hb1)
                  have hn := hS.length
                  clear hb1 HC0
                  rw [hls] at hS hn
                  obtain rfl : n = 3 := by simpa using hn.symm
                  clear hn
                  obtain ⟨ad0, x0, rfl, hb0, hx0, _, p0⟩ := hS.get (k := 0) (by omega)
                  obtain rfl : a = x0 := by simpa using hx0
                  clear hx0
                  obtain ⟨ad1, x1, e1, hb1, hx1, _, p1⟩ := hS.get (k := 1) (by omega)
                  obtain rfl : ad0 = ad1 := by injection e1
                  clear e1
                  obtain rfl : b = x1 := by simpa using hx1
                  clear hx1
                  obtain ⟨ad2, x2, e2, hb2, hx2, _, p2⟩ := hS.get (k := 2) (by omega)
                  obtain rfl : ad0 = ad2 := by injection e2
                  clear e2
                  obtain rfl : c = x2 := by simpa using hx2
                  clear hx2
                  rw [show ad0.add 0 = ad0 from rfl] at p0
                  have P0 := Lib.hid p0
                  rw [addr_off ad0 (by decide)] at p1
                  have P1 := Lib.hid p1
                  rw [addr_off ad0 (by decide)] at p2
                  have P2 := Lib.hid p2
                  have KWa := Lib.hid (fun W => KW.out a W (by simp))
                  rw [hwa] at KWa
                  have KWb := Lib.hid (fun W => KW.out b W (by simp))
                  rw [hwb] at KWb
                  have KWc := Lib.hid (fun W => KW.out c W (by simp))
                  rw [hwc] at KWc
                  clear KW
                  go_wp2_with fail
                  refine (KWa.out _).mono ?_
                  clear KWa
                  rintro e wx ⟨rfl, hwx⟩; obtain rfl := hwx.symm
                  go_wp2_with fail
                  refine (KWb.out _).mono ?_
                  clear KWb
                  rintro e wx ⟨rfl, hwx⟩; obtain rfl := hwx.symm
                  go_wp2_with fail
                  refine (KWc.out _).mono ?_
                  clear KWc
                  rintro e wx ⟨rfl, hwx⟩; obtain rfl := hwx.symm
                  have hbb : Below w1.heap.size w1 (w1.alloc (.cells #[.int .i64 (-1), .int .i64 (-1), .int .i64 (-1)] 26)) := (Below.refl _ _).alloc (Nat.le_refl _) _
                  have HT := Lib.hid (SlotN.new w1 [.int .i64 (-1), .int .i64 (-1), .int .i64 (-1)] #[.int .i64 (-1), .int .i64 (-1), .int .i64 (-1)] 26 rfl)
                  have HCn := Lib.hid (HC.out.grown hbb)
                  have HBW := Lib.hid hbb
                  have hlw := HC.out.lt
                  clear hbb HC
                  have HC := HCn
                  clear HCn
                  clear p0
                  have p0 := (HBW.out.cell (p := ad0) hb0).trans P0.out
                  clear p1
                  have p1 := (HBW.out.cell (p := ⟨ad0.block, ad0.off + 1, none⟩) hb0).trans P1.out
                  clear p2
                  have p2 := (HBW.out.cell (p := ⟨ad0.block, ad0.off + 2, none⟩) hb0).trans P2.out
                  go_wp2_with fail
                  generalize hW2 : w1.alloc (.cells #[.int .i64 (-1), .int .i64 (-1), .int .i64 (-1)] 26) = W2 at *
                  clear hW2
                  have KPx := Lib.hid (fun W => KP.out a ma W (by simp) HBM.out.1)
                  rw [hp0] at KPx
                  dsimp only at KPx
                  refine (KPx.out _).mono ?_
                  clear KPx
                  rintro e wx ⟨rfl, hwx⟩; obtain rfl := hwx.symm
                  have t0' := HT.out.c 0 _ rfl
                  have g0 := HT.out.f 0
                  have HTn := Lib.hid (HT.out.set3 0 (by decide) (.int .i64 v0))
                  have HCn := Lib.hid (HC.out.other w1.heap.size 0 hlw (.int .i64 v0))
                  have HBn := Lib.hid (HBW.out.setCell (p := ⟨w1.heap.size, 0, none⟩) (Nat.le_refl _) (.int .i64 v0))
                  clear HT HC HBW
                  have HT := HTn
                  have HC := HCn
                  have HBW := HBn
                  clear HTn HCn HBn
                  have q0 := (HBW.out.cell (p := ad0) hb0).trans P0.out
                  have q1 := (HBW.out.cell (p := ⟨ad0.block, ad0.off + 1, none⟩) hb0).trans P1.out
                  have q2 := (HBW.out.cell (p := ⟨ad0.block, ad0.off + 2, none⟩) hb0).trans P2.out
                  go_wp2_with fail
                  generalize hW3 : W2.setCell ⟨w1.heap.size, 0, none⟩ (.int .i64 v0) = W3 at *
                  clear hW3 t0' g0
                  have KPx := Lib.hid (fun W => KP.out b mb W (by simp) HBM.out.2.1)
                  rw [hp1] at KPx
                  dsimp only at KPx
                  refine (KPx.out _).mono ?_
                  clear KPx
                  rintro e wx ⟨rfl, hwx⟩; obtain rfl := hwx.symm
                  have t1' := HT.out.c 1 _ rfl
                  have g1 := HT.out.f 1
                  have HTn := Lib.hid (HT.out.set3 1 (by decide) (.int .i64 v1))
                  have HCn := Lib.hid (HC.out.other w1.heap.size 1 hlw (.int .i64 v1))
                  have HBn := Lib.hid (HBW.out.setCell (p := ⟨w1.heap.size, 1, none⟩) (Nat.le_refl _) (.int .i64 v1))
                  clear HT HC HBW
                  have HT := HTn
                  have HC := HCn
                  have HBW := HBn
                  clear HTn HCn HBn
                  have q0 := (HBW.out.cell (p := ad0) hb0).trans P0.out
                  have q1 := (HBW.out.cell (p := ⟨ad0.block, ad0.off + 1, none⟩) hb0).trans P1.out
                  have q2 := (HBW.out.cell (p := ⟨ad0.block, ad0.off + 2, none⟩) hb0).trans P2.out
                  go_wp2_with fail
                  generalize hW4 : W3.setCell ⟨w1.heap.size, 1, none⟩ (.int .i64 v1) = W4 at *
                  clear hW4 t1' g1
                  have KPx := Lib.hid (fun W => KP.out c mc W (by simp) HBM.out.2.2)
                  rw [hp2] at KPx
                  dsimp only at KPx
                  refine (KPx.out _).mono ?_
                  clear KPx
                  rintro e wx ⟨rfl, hwx⟩; obtain rfl := hwx.symm
                  have HC2 := Lib.hid (HC.out.put 0 0 0)
                  have c0 := HC.out.r.c 0 _ rfl
                  have c1 := HC.out.r.c 1 _ rfl
                  have c2 := HC.out.r.c 2 _ rfl
                  have f0 := HC.out.r.f 0
                  have f1 := HC.out.r.f 1
                  have f2 := HC.out.r.f 2
                  go_wp2_with fail
                  generalize World.setCell _ ⟨w.heap.size, 2, none⟩ (.int .i64 0) = V at *
                  clear c0 c1 c2 f0 f1 f2
                  have e0 := HC2.out.r.c 0 _ rfl
                  have e1 := HC2.out.r.c 1 _ rfl
                  have e2 := HC2.out.r.c 2 _ rfl
                  exact bodyPost_ret (v := .tuple #[p3V ⟨0, 0, 0⟩, .int .i64 z2]) (by simp [results, Tryd.results29, go_sem, e0, e1, e2, p3V]) rfl (FIN.out _ _ _ HR.out HC2.out.below)
              · have nz : (z1 != 0) = true := by rw [bne_iff_ne]; exact hz1
                have HR : Hid (cornerR l ⟨ma, mb, mc⟩ = (⟨0, 0, 0⟩, z1)) := Lib.hid (by rw [HCR.out]; simp [refForm, partR, hwa, hfa, hfb, hwb, hwc, hfc, hp0, hp1, hz1])
                clear hz1
                go_enter Tryd.func29, Tryd.ntmps29
                go_wp2_with fail
                refine (KCUT.out _).mono ?_
                clear KCUT
                rintro e w1 ⟨hb1, A, n, c', rfl, hS⟩
                have HC := Lib.hid (HC0.out.grown hb1)
                have hn := hS.length
                clear hb1 HC0
                rw [hls] at hS hn
                obtain rfl : n = 3 := by simpa using hn.symm
                clear hn
                obtain ⟨ad0, x0, rfl, hb0, hx0, _, p0⟩ := hS.get (k := 0) (by omega)
                obtain rfl : a = x0 := by simpa using hx0
                clear hx0
                obtain ⟨ad1, x1, e1, hb1, hx1, _, p1⟩ := hS.get (k := 1) (by omega)
                obtain rfl : ad0 = ad1 := by injection e1
                clear e1
                obtain rfl : b = x1 := by simpa using hx1
                clear hx1
                obtain ⟨ad2, x2, e2, hb2, hx2, _, p2⟩ := hS.get (k := 2) (by omega)
                obtain rfl : ad0 = ad2 := by injection e2
                clear e2
                obtain rfl : c = x2 := by simpa using hx2
                clear hx2
                rw [show ad0.add 0 = ad0 from rfl] at p0
                have P0 := Lib.hid p0
                rw [addr_off ad0 (by decide)] at p1
                have P1 := Lib.hid p1
                rw [addr_off ad0 (by decide)] at p2
                have P2 := Lib.hid p2
                have KWa := Lib.hid (fun W => KW.out a W (by simp))
                rw [hwa] at KWa
                have KWb := Lib.hid (fun W => KW.out b W (by simp))
                rw [hwb] at KWb
                have KWc := Lib.hid (fun W => KW.out c W (by simp))
                rw [hwc] at KWc
                clear KW
                go_wp2_with fail
                refine (KWa.out _).mono ?_
                clear KWa
                rintro e wx ⟨rfl, hwx⟩; obtain rfl := hwx.symm
                go_wp2_with fail
                refine (KWb.out _).mono ?_
                clear KWb
                rintro e wx ⟨rfl, hwx⟩; obtain rfl := hwx.symm
                go_wp2_with fail
                refine (KWc.out _).mono ?_
                clear KWc
                rintro e wx ⟨rfl, hwx⟩; obtain rfl := hwx.symm
                have hbb : Below w1.heap.size w1 (w1.alloc (.cells #[.int .i64 (-1), .int .i64 (-1), .int .i64 (-1)] 26)) := (Below.refl _ _).alloc (Nat.le_refl _) _
                have HT := Lib.hid (SlotN.new w1 [.int .i64 (-1), .int .i64 (-1), .int .i64 (-1)] #[.int .i64 (-1), .int .i64 (-1), .int .i64 (-1)] 26 rfl)
                have HCn := Lib.hid (HC.out.grown hbb)
                have HBW := Lib.hid hbb
                have hlw := HC.out.lt
                clear hbb HC
                have HC := HCn
                clear HCn
                clear p0
                have p0 := (HBW.out.cell (p := ad0) hb0).trans P0.out
                clear p1
                have p1 := (HBW.out.cell (p := ⟨ad0.block, ad0.off + 1, none⟩) hb0).trans P1.out
                clear p2
                have p2 := (HBW.out.cell (p := ⟨ad0.block, ad0.off + 2, none⟩) hb0).trans P2.out
                go_wp2_with fail
                generalize hW2 : w1.alloc (.cells #[.int .i64 (-1), .int .i64 (-1), .int .i64 (-1)] 26) = W2 at *
                clear hW2
                have KPx := Lib.hid (fun W => KP.out a ma W (by simp) HBM.out.1)
                rw [hp0] at KPx
                dsimp only at KPx
                refine (KPx.out _).mono ?_
                clear KPx
                rintro e wx ⟨rfl, hwx⟩; obtain rfl := hwx.symm
                have t0' := HT.out.c 0 _ rfl
                have g0 := HT.out.f 0
                have HTn := Lib.hid (HT.out.set3 0 (by decide) (.int .i64 v0))
                have HCn := Lib.hid (HC.out.other w1.heap.size 0 hlw (.int .i64 v0))
                have HBn := Lib.hid (HBW.out.setCell (p := ⟨w1.heap.size, 0, none⟩) (Nat.le_refl _) (.int .i64 v0))
                clear HT HC HBW
                have HT := HTn
                have HC := HCn
                have HBW := HBn
                clear HTn HCn HBn
                have q0 := (HBW.out.cell (p := ad0) hb0).trans P0.out
                have q1 := (HBW.out.cell (p := ⟨ad0.block, ad0.off + 1, none⟩) hb0).trans P1.out
                have q2 := (HBW.out.cell (p := ⟨ad0.block, ad0.off + 2, none⟩) hb0).trans P2.out
                go_wp2_with fail
                generalize hW3 : W2.setCell ⟨w1.heap.size, 0, none⟩ (.int .i64 v0) = W3 at *
                clear hW3 t0' g0
                have KPx := Lib.hid (fun W => KP.out b mb W (by simp) HBM.out.2.1)
                rw [hp1] at KPx
                dsimp only at KPx
                refine (KPx.out _).mono ?_
                clear KPx
                rintro e wx ⟨rfl, hwx⟩; obtain rfl := hwx.symm
                have HC2 := Lib.hid (HC.out.put 0 0 0)
                have c0 := HC.out.r.c 0 _ rfl
                have c1 := HC.out.r.c 1 _ rfl
                have c2 := HC.out.r.c 2 _ rfl
                have f0 := HC.out.r.f 0
                have f1 := HC.out.r.f 1
                have f2 := HC.out.r.f 2
                go_wp2_with fail
                generalize World.setCell _ ⟨w.heap.size, 2, none⟩ (.int .i64 0) = V at *
                clear c0 c1 c2 f0 f1 f2
                have e0 := HC2.out.r.c 0 _ rfl
                have e1 := HC2.out.r.c 1 _ rfl
                have e2 := HC2.out.r.c 2 _ rfl
                exact bodyPost_ret (v := .tuple #[p3V ⟨0, 0, 0⟩, .int .i64 z1]) (by simp [results, Tryd.results29, go_sem, e0, e1, e2, p3V]) rfl (FIN.out _ _ _ HR.out HC2.out.below)
            · have nz : (z0 != 0) = true := by rw [bne_iff_ne]; exact hz0
              have HR : Hid (cornerR l ⟨ma, mb, mc⟩ = (⟨0, 0, 0⟩, z0)) := Lib.hid (by rw [HCR.out]; simp [refForm, partR, hwa, hfa, hfb, hwb, hwc, hfc, hp0, hz0])
              clear hz0
              go_enter Tryd.func29, Tryd.ntmps29
              go_wp2_with fail
              refine (KCUT.out _).mono ?_
              clear KCUT
              rintro e w1 ⟨hb1, A, n, c', rfl, hS⟩
              have HC := Lib.hid (HC0.out.grown hb1)
              have hn := hS.length
              clear hb1 HC0
              rw [hls] at hS hn
              obtain rfl : n = 3 := by simpa using hn.symm
              clear hn
              obtain ⟨ad0, x0, rfl, hb0, hx0, _, p0⟩ := hS.get (k := 0) (by omega)
              obtain rfl : a = x0 := by simpa using hx0
              clear hx0
              obtain ⟨ad1, x1, e1, hb1, hx1, _, p1⟩ := hS.get (k := 1) (by omega)
              obtain rfl : ad0 = ad1 := by injection e1
              clear e1
              obtain rfl : b = x1 := by simpa using hx1
              clear hx1
              obtain ⟨ad2, x2, e2, hb2, hx2, _, p2⟩ := hS.get (k := 2) (by omega)
              obtain rfl : ad0 = ad2 := by injection e2
              clear e2
              obtain rfl : c = x2 := by simpa using hx2
              clear hx2
              rw [show ad0.add 0 = ad0 from rfl] at p0
              have P0 := Lib.hid p0
              rw [addr_off ad0 (by decide)] at p1
              have P1 := Lib.hid p1
              rw [addr_off ad0 (by decide)] at p2
              have P2 := Lib.hid p2
              have KWa := Lib.hid (fun W => KW.out a W (by simp))
              rw [hwa] at KWa
              have KWb := Lib.hid (fun W => KW.out b W (by simp))
              rw [hwb] at KWb
              have KWc := Lib.hid (fun W => KW.out c W (by simp))
              rw [hwc] at KWc
              clear KW
              go_wp2_with fail
              refine (KWa.out _).mono ?_
              clear KWa
              rintro e wx ⟨rfl, hwx⟩; obtain rfl := hwx.symm
              go_wp2_with fail
              refine (KWb.out _).mono ?_
              clear KWb
              rintro e wx ⟨rfl, hwx⟩; obtain rfl := hwx.symm
              go_wp2_with fail
              refine (KWc.out _).mono ?_
              clear KWc
              rintro e wx ⟨rfl, hwx⟩; obtain rfl := hwx.symm
              have hbb : Below w1.heap.size w1 (w1.alloc (.cells #[.int .i64 (-1), .int .i64 (-1), .int .i64 (-1)] 26)) := (Below.refl _ _).alloc (Nat.le_refl _) _
              have HT := Lib.hid (SlotN.new w1 [.int .i64 (-1), .int .i64 (-1), .int .i64 (-1)] #[.int .i64 (-1), .int .i64 (-1), .int .i64 (-1)] 26 rfl)
              have HCn := Lib.hid (HC.out.grown hbb)
              have HBW := Lib.hid hbb
              have hlw := HC.out.lt
              clear hbb HC
              have HC := HCn
              clear HCn
              clear p0
              have p0 := (HBW.out.cell (p := ad0) hb0).trans P0.out
              clear p1
              have p1 := (HBW.out.cell (p := ⟨ad0.block, ad0.off + 1, none⟩) hb0).trans P1.out
              clear p2
              have p2 := (HBW.out.cell (p := ⟨ad0.block, ad0.off + 2, none⟩) hb0).trans P2.out
              go_wp2_with fail
              generalize hW2 : w1.alloc (.cells #[.int .i64 (-1), .int .i64 (-1), .int .i64 (-1)] 26) = W2 at *
              clear hW2
              have KPx := Lib.hid (fun W => KP.out a ma W (by simp) HBM.out.1)
              rw [hp0] at KPx
              dsimp only at KPx
              refine (KPx.out _).mono ?_
              clear KPx
              rintro e wx ⟨rfl, hwx⟩; obtain rfl := hwx.symm
              have HC2 := Lib.hid (HC.out.put 0 0 0)
              have c0 := HC.out.r.c 0 _ rfl
              have c1 := HC.out.r.c 1 _ rfl
              have c2 := HC.out.r.c 2 _ rfl
              have f0 := HC.out.r.f 0
              have f1 := HC.out.r.f 1
              have f2 := HC.out.r.f 2
              go_wp2_with fail
              generalize World.setCell _ ⟨w.heap.size, 2, none⟩ (.int .i64 0) = V at *
              clear c0 c1 c2 f0 f1 f2
              have e0 := HC2.out.r.c 0 _ rfl
              have e1 := HC2.out.r.c 1 _ rfl
              have e2 := HC2.out.r.c 2 _ rfl
              exact bodyPost_ret (v := .tuple #[p3V ⟨0, 0, 0⟩, .int .i64 z0]) (by simp [results, Tryd.results29, go_sem, e0, e1, e2, p3V]) rfl (FIN.out _ _ _ HR.out HC2.out.below)
end Go.Proofs.YtkdffcoofijhkaaDoor
