/-
  THE WALKS OF THE PACKAGE shelf, the greater ones: Place, Rise, Pack, Apart, Is.
-/
import Derived.Test.YtneoacbacflehaaShelfWalkA
set_option linter.unusedVariables false
set_option linter.unusedSimpArgs false
namespace Go.Proofs.Ytneoacbacflehaa
open Go.RowKit

theorem size_int : (Try.prog.info? 3).map (fun i => (i.zero, i.size, i.bytes)) = some (some (.int .i64 0), 1, 8) := by kernel_rfl

/-- ints laid out in a new block -/
theorem Ints.lit {w : World} (xs : List Int) (t : TypeId) (h : I64 xs) (hl : xs.length ≤ 1000) :
    Ints (w.alloc (.cells (cellsI xs).toArray t)) (w.heap.size + 1) (some ⟨w.heap.size, 0, none⟩) xs.length xs := by
  refine ⟨⟨by simp [cellsI], fun _ => ⟨_, rfl, by simp, fun j u hu => ?_⟩⟩, h, by omega⟩
  rw [addr_lit, cell_of_row _ _ _ _ _ _ (heap_alloc_new w _)]
  simpa using hu

/-- within, of numbers that are laid in a new block -/
theorem within_lit (xs : List Int) (cs : Array Value) (hcs : cs = (cellsI xs).toArray) (hx : I64 xs) (hl : xs.length ≤ 1000) (W : World) (g : Nat) (hg : W.heap.size = g) :
    Calls Try.prog 24 #[.slice (some ⟨g, 0, none⟩) xs.length xs.length] (W.alloc (.cells cs 3)) fun e w' => e = .returned (.bool (xs.all texel)) ∧ W.alloc (.cells cs 3) = w' := by
  subst hcs
  subst hg
  exact within_any (W.heap.size + 1) _ _ _ xs _ (Ints.lit (w := W) xs 3 hx hl)

theorem sizeOdd_any (p : Pt) (hp : p.b) (w : World) : Calls Try.prog 30 #[ptV p] w fun e w' => e = .returned (.bool (!sizeOk p)) ∧ Below w.heap.size w w' := by
  obtain ⟨x, y⟩ := p
  have hI : I64 [x, y] := fun z hz => by
    simp only [List.mem_cons, List.not_mem_nil, or_false] at hz
    rcases hz with rfl | rfl
    · exact hp.1
    · exact hp.2
  have hl := Lib.hid (within_lit [x, y] #[.int .i64 x, .int .i64 y] rfl hI (by simp) (w.alloc (.cells #[.int .i64 x, .int .i64 y] 45)) (w.heap.size + 1) (by simp))
  unfold ptV
  go_enter Try.func30, Try.ntmps30
  go_wp2_with fail
  refine hl.out.mono ?_
  rintro e w' ⟨rfl, rfl⟩
  go_wp2_with fail
  go_ret
  refine ⟨ret_bool (by simp [sizeOk]), ?_⟩
  exact ((Below.refl _ _).alloc (Nat.le_refl _) _).alloc (by simp) _

theorem idxP_any (B F : Nat) (f : Pt → Bool) (hf : ∀ (p : Pt) (W : World), p.b → Calls Try.prog F #[ptV p] W fun e w' => e = .returned (.bool (f p)) ∧ Below W.heap.size W w')
    (hF : ∀ (args : Array Value) (W : World), Sem.run Try.prog (callFunc F args) W = .ok (.enter F args) W) (A : Option Addr) (n c : Nat) (ps : List Pt) (w : World) (h : Pts w B A n ps) (hB : B ≤ w.heap.size) :
    Calls Try.prog 41 #[.slice A n c, .func (.func F) #[] #[]] w fun e w' => IdxRes (ps.any f) e ∧ Below w.heap.size w w' := by
  have hn := h.len
  have HF := Lib.hid hf; clear hf
  go_enter Try.func41, Try.ntmps41
  go_wp2_with fail
  go_loopw [8] (fun i wr => ∃ k : Nat, k ≤ n ∧ i = .int .i64 k ∧ Hid ((ps.take k).any f = false) ∧ Below w.heap.size w wr) (fun i _ => n - (intOf i).toNat)
  case atStart => exact ⟨0, Nat.zero_le _, rfl, rfl, Below.refl _ _⟩
  case round =>
    obtain ⟨k, hk, rfl, hany, hbel⟩ := hrel
    by_cases hlt : k < n
    · obtain ⟨ad, p, rfl, hb, hx, hm, hpb, hc0, hc1⟩ := (h.below hbel hB).get hlt
      have HX := Lib.hid hx; clear hx
      go_wp2_with fail
      refine (HF.out p _ hpb).mono ?_
      rintro e w' ⟨rfl, hb'⟩
      have hbel' := hbel.trans (hb'.mono hbel.size)
      cases hfx : f p with
      | true =>
        have HFX := Lib.hid hfx; clear hfx
        go_wp2_with fail
        go_ret
        exact ⟨.yes (any_true hm HFX.out) (by omega), hbel'⟩
      | false =>
        have HFX := Lib.hid hfx; clear hfx
        go_wp2_with fail
        go_roundw
        case rel => exact ⟨k + 1, by omega, by go_num, by
          refine Lib.hid ?_
          rw [take_snoc' _ _ _ HX.out, List.any_append, hany.out]
          simp [HFX.out], hbel'⟩
        case measure => simp [intOf]; omega
    · go_wp2_with fail
      go_ret
      refine ⟨.no ?_, hbel⟩
      have := hany.out
      rw [List.take_of_length_le (by rw [h.length]; omega)] at this
      exact this

theorem containsP_any (B F : Nat) (f : Pt → Bool) (hf : ∀ (p : Pt) (W : World), p.b → Calls Try.prog F #[ptV p] W fun e w' => e = .returned (.bool (f p)) ∧ Below W.heap.size W w')
    (hF : ∀ (args : Array Value) (W : World), Sem.run Try.prog (callFunc F args) W = .ok (.enter F args) W) (A : Option Addr) (n c : Nat) (ps : List Pt) (w : World) (h : Pts w B A n ps) (hB : B ≤ w.heap.size) :
    Calls Try.prog 31 #[.slice A n c, .func (.func F) #[] #[]] w fun e w' => e = .returned (.bool (ps.any f)) ∧ Below w.heap.size w w' := by
  have HF := Lib.hid hf; clear hf
  go_enter Try.func31, Try.ntmps31
  go_wp2_with fail
  refine (idxP_any B F f HF.out hF A n c ps _ h hB).mono ?_
  rintro e w' ⟨⟨r, rfl, h1, h2, hr⟩, hb⟩
  have HR := Lib.hid hr; clear hr
  go_wp2_with fail
  go_ret
  exact ⟨ret_bool HR.out, hb⟩

theorem place_any (A : Option Addr) (n c : Nat) (sky : List Int) (ww h most : Int) (w : World) (hI : Ints w w.heap.size A n sky) (hc : n ≤ c) (hcm : c ≤ maxLen)
    (bw : i64b ww) (bh : i64b h) (bm : i64b most) :
    Calls Try.prog 10 #[.slice A n c, .int .i64 ww, .int .i64 h, .int .i64 most] w fun e w' =>
      e = .returned (.tuple #[.int .i64 (placeS sky ww h most).1, .int .i64 (placeS sky ww h most).2.1, .bool (placeS sky ww h most).2.2]) ∧ Below w.heap.size w w' := by
  have hr := Lib.hid (right_any _ A n c sky w hI)
  have hJ : I64 [ww, h, most] := fun z hz => by
    simp only [List.mem_cons, List.not_mem_nil, or_false] at hz
    rcases hz with rfl | rfl | rfl
    · exact bw
    · exact bh
    · exact bm
  have hl := Lib.hid (within_lit [ww, h, most] #[.int .i64 ww, .int .i64 h, .int .i64 most] rfl hJ (by simp) w w.heap.size rfl)
  go_enter Try.func10, Try.ntmps10
  go_wp2_with fail
  refine hr.out.mono ?_
  rintro e w' ⟨rfl, rfl⟩
  cases hok : skyOk sky with
  | false =>
    have HOK := Lib.hid hok; clear hok
    go_wp2_with fail
    go_ret3
    exact ⟨by rw [placeS_no (by rw [HOK.out]; rfl)]; rfl, Below.refl _ _⟩
  | true =>
    have HOK := Lib.hid hok; clear hok
    go_wp2_with fail
    refine hl.out.mono ?_
    rintro e w' ⟨rfl, rfl⟩
    cases hall : [ww, h, most].all texel with
    | false =>
      have HALL := Lib.hid hall; clear hall
      go_wp2_with fail
      go_ret3
      refine ⟨?_, (Below.refl _ _).alloc (Nat.le_refl _) _⟩
      have e := HALL.out
      simp only [List.all_cons, List.all_nil, Bool.and_true] at e
      rw [placeS_no (by rw [HOK.out, Bool.true_and, Bool.and_assoc]; exact e)]; rfl
    | true =>
      have HALL := Lib.hid hall; clear hall
      have e := HALL.out
      simp only [List.all_cons, List.all_nil, Bool.and_true, Bool.and_eq_true] at e
      obtain ⟨e1, e2, e3⟩ := e
      have r1 := texel_iff.1 e1
      have r2 := texel_iff.1 e2
      have r3 := texel_iff.1 e3
      have r0 := skyOk_iff.1 HOK.out
      have hfd := Lib.hid (find_any w.heap.size A n c sky ww h most (w.alloc (.cells #[.int .i64 ww, .int .i64 h, .int .i64 most] 3)) (hI.below ((Below.refl _ _).alloc (Nat.le_refl _) _) (Nat.le_refl _)) hc hcm r0.2 (by rw [← hI.length]; exact r0.1) r1 r2 r3)
      have hpl : Hid (placeS sky ww h most = findS sky ww h most) := by
        exact Lib.hid (placeS_yes (by rw [HOK.out, e1, e2, e3]; rfl))
      clear e1 e2 e3 r1 r2 r3 r0
      go_wp2_with fail
      refine hfd.out.mono ?_
      rintro e w' ⟨rfl, rfl⟩
      go_wp2_with fail
      go_ret3
      exact ⟨by rw [hpl.out]; rfl, (Below.refl _ _).alloc (Nat.le_refl _) _⟩
theorem heap_alloc_new' (w : World) (o : Obj) {n : Nat} (h : n = w.heap.size) : (w.alloc o).heap[n]? = some o := by subst h; exact heap_alloc_new w o
theorem toList_madeCells_one' (z : Value) (n : Nat) : madeCells #[z] n = (List.replicate n z).toArray := by
  rw [← toList_madeCells_one]
/-- a row of ints of the call's own, in block g -/
theorem own_of_block {w : World} {base g : Nat} {sky : List Int} (hg : base ≤ g) (hl : sky.length ≤ 1000000) (h : w.heap[g]? = some (.cells (cellsI sky).toArray 3 (0, 0))) :
    w.ownsRow base 3 1 (.slice (some ⟨g, 0, none⟩) sky.length sky.length) sky.length (cellsI sky) :=
  ⟨by simp [cellsI], .inr ⟨g, sky.length, _, rfl, hg, h, Nat.le_refl _, by unfold maxLen; omega, by simp [cellsI], List.take_of_length_le (by simp [cellsI])⟩⟩

def RiseRes (sky : List Int) (r : Rc) (w : World) (e : Ending) (w' : World) : Prop := ListRes w 3 1 (riseF sky r).1.length (cellsI (riseF sky r).1) (riseF sky r).2 e w'
theorem RiseRes.no {w w' : World} {v : Value} {sky : List Int} {r : Rc} (h : riseOk sky r = false) (hv : v = .tuple #[.slice none 0 0, .int .i64 1]) (hb : Below w.heap.size w w') : RiseRes sky r w (.returned v) w' := by
  unfold RiseRes
  rw [riseF_no h]
  exact ListRes.none_ hv hb

theorem riseF_any (A : Option Addr) (n c : Nat) (sky : List Int) (r : Rc) (w : World) (hI : Ints w w.heap.size A n sky) (hr : r.b) :
    Calls Try.prog 12 #[.slice A n c, rcV r] w (RiseRes sky r w) := by
  obtain ⟨rx, ry, rw', rh⟩ := r
  obtain ⟨⟨bx1, bx2⟩, ⟨by1, by2⟩, ⟨bw1, bw2⟩, ⟨bh1, bh2⟩⟩ := hr
  simp only at bx1 bx2 by1 by2 bw1 bw2 bh1 bh2
  have hlen := Lib.hid hI.length
  have hn63 := hI.len
  have hI1 : Ints (w.alloc (.cells #[.int .i64 rx, .int .i64 ry, .int .i64 rw', .int .i64 rh] 24)) w.heap.size A n sky := hI.below ((Below.refl _ _).alloc (Nat.le_refl _) _) (Nat.le_refl _)
  have hr := Lib.hid (right_any _ A n c sky _ hI1)
  have hJ : I64 [rw', rh] := fun z hz => by
    simp only [List.mem_cons, List.not_mem_nil, or_false] at hz
    rcases hz with rfl | rfl
    · exact ⟨bw1, bw2⟩
    · exact ⟨bh1, bh2⟩
  have hl := Lib.hid (within_lit [rw', rh] #[.int .i64 rw', .int .i64 rh] rfl hJ (by simp) (w.alloc (.cells #[.int .i64 rx, .int .i64 ry, .int .i64 rw', .int .i64 rh] 24)) (w.heap.size + 1) (by simp))
  have hb1 : Below w.heap.size w (w.alloc (.cells #[.int .i64 rx, .int .i64 ry, .int .i64 rw', .int .i64 rh] 24)) := (Below.refl _ _).alloc (Nat.le_refl _) _
  have hb2 : Below w.heap.size w ((w.alloc (.cells #[.int .i64 rx, .int .i64 ry, .int .i64 rw', .int .i64 rh] 24)).alloc (.cells #[.int .i64 rw', .int .i64 rh] 3)) := hb1.alloc (by simp) _
  unfold rcV
  go_enter Try.func12, Try.ntmps12
  go_wp2_with fail
  refine hr.out.mono ?_
  rintro e w' ⟨rfl, rfl⟩
  cases hok : skyOk sky with
  | false =>
    have HOK := Lib.hid hok; clear hok
    go_wp2_with fail
    go_ret2
    exact RiseRes.no (riseOk_no (by rw [HOK.out]; simp)) rfl hb1
  | true =>
    have HOK := Lib.hid hok; clear hok
    go_wp2_with fail
    refine hl.out.mono ?_
    rintro e w' ⟨rfl, rfl⟩
    cases hall : [rw', rh].all texel with
    | false =>
      have HALL := Lib.hid hall; clear hall
      go_wp2_with fail
      go_ret2
      refine RiseRes.no (riseOk_no ?_) rfl hb2
      have e := HALL.out
      simp only [List.all_cons, List.all_nil, Bool.and_true] at e
      rintro ⟨_, ⟨e1, e2⟩, _⟩
      simp only at e1 e2
      rw [e1, e2] at e; cases e
    | true =>
      have HALL := Lib.hid hall; clear hall
      have e := HALL.out
      simp only [List.all_cons, List.all_nil, Bool.and_true, Bool.and_eq_true] at e
      obtain ⟨e1, e2⟩ := e
      have r1 := texel_iff.1 e1
      have r2 := texel_iff.1 e2
      have E1 := Lib.hid e1
      have E2 := Lib.hid e2
      clear e1 e2
      obtain ⟨r11, r12⟩ := r1
      obtain ⟨r21, r22⟩ := r2
      have hs := (skyOk_iff.1 HOK.out).1
      rw [hlen.out] at hs
      by_cases t1 : rx < 0
      · have dt1 : decide (rx < 0) = true := decide_eq_true t1
        go_wp2_with fail
        all_goals (go_ret2; exact RiseRes.no (riseOk_no (by rintro ⟨_, _, h, _⟩; simp only at h; omega)) rfl hb2)
      have dt1 : decide (rx < 0) = false := decide_eq_false t1
      by_cases t2 : (n : Int) - rw' < rx
      · have dt2 : decide ((n : Int) - rw' < rx) = true := decide_eq_true t2
        go_wp2_with fail
        all_goals (go_ret2; exact RiseRes.no (riseOk_no (by rintro ⟨_, _, _, h, _⟩; rw [hlen.out] at h; simp only at h; omega)) rfl hb2)
      have dt2 : decide ((n : Int) - rw' < rx) = false := decide_eq_false t2
      by_cases t3 : ry < 0
      · have dt3 : decide (ry < 0) = true := decide_eq_true t3
        go_wp2_with fail
        all_goals (go_ret2; exact RiseRes.no (riseOk_no (by rintro ⟨_, _, _, _, h, _⟩; simp only at h; omega)) rfl hb2)
      have dt3 : decide (ry < 0) = false := decide_eq_false t3
      by_cases t4 : 256 - rh < ry
      · have dt4 : decide (256 - rh < ry) = true := decide_eq_true t4
        go_wp2_with fail
        all_goals (go_ret2; exact RiseRes.no (riseOk_no (by rintro ⟨_, _, _, _, _, h⟩; simp only at h; omega)) rfl hb2)
      have dt4 : decide (256 - rh < ry) = false := decide_eq_false t4
      have hmk := fun W : World => run_make_row' (P := Try.prog) 49 3 (.int .i64 0) 8 Try.underlying49 size_int rfl .i64 .i64 n (by omega) (by omega) W
      go_wp2_with fail
      have hbm := hb2.alloc (by simp; omega) (.cells (madeCells #[.int .i64 0] n) 3)
      refine upon_copy 3 Try.underlying49 (by rfl) (w.heap.size + 2) (List.replicate n (.int .i64 0)) 3 (cellsI sky) w.heap.size w ?_ rfl ?_ ?_ ?_ (cellsI_one _) hbm (by omega) ?_
      · rw [cellsI_length, hlen.out]; simp
      · rw [heap_alloc_new' _ _ (by simp)]; simp [toList_madeCells_one' (.int .i64 0) n]
      · rw [cellsI_length, hlen.out]; exact (hI.below hbm (Nat.le_refl _)).rd
      · simp [cellsI, hlen.out]
      intro w2 hg2 hb3 hgr
      have hbox : ∀ j, w2.cell? ⟨w.heap.size, j, none⟩ = (#[.int .i64 rx, .int .i64 ry, .int .i64 rw', .int .i64 rh] : Array Value)[j]? := fun j => by
        rw [hgr.cell_far _ (by simp; omega) (by simp), World.cell?_alloc_lt _ _ _ (by simp; omega), World.cell?_alloc_lt _ _ _ (by simp), World.cell?_alloc_new]
      have c0 := hbox 0
      have c1 := hbox 1
      have c2 := hbox 2
      have c3 := hbox 3
      simp at c0 c1 c2 c3
      have hz : w.heap.size < w2.heap.size := by have := hgr.size; simp at this; omega
      clear hbox hgr
      have hg2' := hg2
      rw [List.drop_of_length_le (by simp [cellsI, hlen.out]), List.append_nil] at hg2'
      have HG2 := Lib.hid hg2'; clear hg2 hg2'
      go_wp2_with fail
      refine (rise_int (w.heap.size + 2) sky rx rw' (ry + rh) n _ _ HG2.out hlen.out t1 (by omega) (by omega) (by omega)).mono ?_
      rintro e w3 ⟨rfl, hg3, hgr3⟩
      have HG3 := Lib.hid hg3; clear hg3
      have hb4 : Below w.heap.size w w3 := hb3.grown hgr3 hb3.size (fun k hk => by simp at hk; omega)
      clear hgr3
      go_wp2_with fail
      go_ret2
      have hyes : riseF sky ⟨rx, ry, rw', rh⟩ = (riseTo sky rx.toNat (ry + rh) rw'.toNat, 0) := riseF_yes (riseOk_iff.2 ⟨HOK.out, ⟨E1.out, E2.out⟩, t1, by rw [hlen.out]; exact t2, t3, t4⟩)
      have hlen3 : (riseTo sky rx.toNat (ry + rh) rw'.toNat).length = n := by rw [riseTo_length, hlen.out]
      unfold RiseRes
      rw [hyes]
      refine ⟨some ⟨w.heap.size + 2, 0, none⟩, n, ?_, ?_, hb4⟩
      · simp only [hlen3]; rfl
      · simp only [hlen3]
        have := own_of_block (base := w.heap.size) (by omega) (by omega) HG3.out
        rwa [hlen3] at this

end Go.Proofs.Ytneoacbacflehaa
