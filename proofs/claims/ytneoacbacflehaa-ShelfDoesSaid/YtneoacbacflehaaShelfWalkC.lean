/-
  THE WALK OF shelf.Pack.
-/
import Derived.Test.YtneoacbacflehaaShelfWalkB
set_option linter.unusedVariables false
set_option linter.unusedSimpArgs false
namespace Go.Proofs.Ytneoacbacflehaa
open Go.RowKit

theorem size_rect : (Try.prog.info? 24).map (fun i => (i.zero, i.size, i.bytes)) = some (some (.agg #[.int .i64 0, .int .i64 0, .int .i64 0, .int .i64 0]), 4, 32) := by kernel_rfl

theorem ints_of_block {w : World} {g : Nat} {sky : List Int} {n : Nat} (hn : sky.length = n) (hl : n ≤ 1000000) (hs : ∀ x ∈ sky, 0 ≤ x ∧ x ≤ 256) (h : w.heap[g]? = some (.cells (cellsI sky).toArray 3 (0, 0))) :
    Ints w (g + 1) (some ⟨g, 0, none⟩) n sky := by
  subst hn
  refine ⟨⟨by simp [cellsI], fun _ => ⟨_, rfl, Nat.lt_succ_self _, fun j u hu => ?_⟩⟩, fun x hx => by have := hs x hx; omega, by omega⟩
  rw [addr_lit, cell_of_row _ _ _ _ _ _ h]
  simpa using hu

def PackRes (ww h : Int) (ps : List Pt) (w : World) (e : Ending) (w' : World) : Prop := ListRes w 24 4 (packS ww h ps).1.length (cellsR (packS ww h ps).1) (packS ww h ps).2 e w'
theorem PackRes.no {w w' : World} {v : Value} {ww h : Int} {ps : List Pt} {k : Int} (hk : packS ww h ps = ([], k)) (hv : v = .tuple #[.slice none 0 0, .int .i64 k]) (hb : Below w.heap.size w w') : PackRes ww h ps w (.returned v) w' := by
  unfold PackRes
  rw [hk]
  exact ListRes.none_ hv hb

theorem pack_any (A : Option Addr) (n c : Nat) (ps : List Pt) (ww h : Int) (w : World) (hP : Pts w w.heap.size A n ps) (hn : n ≤ 1000) (bw : i64b ww) (bh : i64b h) :
    Calls Try.prog 14 #[.int .i64 ww, .int .i64 h, .slice A n c] w (PackRes ww h ps w) := by
  have hJ : I64 [ww, h] := fun z hz => by
    simp only [List.mem_cons, List.not_mem_nil, or_false] at hz
    rcases hz with rfl | rfl
    · exact bw
    · exact bh
  have hb1 : Below w.heap.size w (w.alloc (.cells #[.int .i64 ww, .int .i64 h] 3)) := (Below.refl _ _).alloc (Nat.le_refl _) _
  have hl := Lib.hid (within_lit [ww, h] #[.int .i64 ww, .int .i64 h] rfl hJ (by simp) w w.heap.size rfl)
  have hcon := Lib.hid (containsP_any w.heap.size 30 (fun p => !sizeOk p) (fun p W hp => sizeOdd_any p hp W) (run_callFunc_go Try.func30 (by kernel_rfl) (by kernel_rfl)) A n c ps _ (hP.below hb1 (Nat.le_refl _)) (by simp))
  obtain ⟨bw1, bw2⟩ := bw
  obtain ⟨bh1, bh2⟩ := bh
  go_enter Try.func14, Try.ntmps14
  go_wp2_with fail
  refine hl.out.mono ?_
  rintro e w' ⟨rfl, rfl⟩
  cases hall : [ww, h].all texel with
  | false =>
    have HALL := Lib.hid hall; clear hall
    go_wp2_with fail
    go_ret2
    refine PackRes.no (packS_no ?_) rfl hb1
    have e := HALL.out
    simp only [List.all_cons, List.all_nil, Bool.and_true] at e
    rw [packOk, e]; rfl
  | true =>
    have HALL := Lib.hid hall; clear hall
    go_wp2_with fail
    refine hcon.out.mono ?_
    rintro e w1 ⟨rfl, hb2⟩
    have hb2' : Below w.heap.size w w1 := hb1.trans (hb2.mono (by simp))
    clear hb2
    cases hany : ps.any (fun p => !sizeOk p) with
    | true =>
      have HANY := Lib.hid hany; clear hany
      go_wp2_with fail
      go_ret2
      refine PackRes.no (packS_no ?_) rfl hb2'
      have e := HANY.out
      rw [packOk, List.all_eq_not_any_not, e, Bool.not_true, Bool.and_false]
    | false =>
      have HANY := Lib.hid hany; clear hany
      have e := HALL.out
      simp only [List.all_cons, List.all_nil, Bool.and_true, Bool.and_eq_true] at e
      have hok : Hid (packOk ww h ps = true) := by
        refine Lib.hid ?_
        rw [packOk, e.1, e.2, List.all_eq_not_any_not, HANY.out]; rfl
      have r1 := texel_iff.1 e.1
      have r2 := texel_iff.1 e.2
      clear e
      obtain ⟨r11, r12⟩ := r1
      obtain ⟨r21, r22⟩ := r2
      have hsz : Hid (∀ p ∈ ps, sizeOk p = true) := by
        refine Lib.hid fun p hp => ?_
        have := List.any_eq_false.1 HANY.out p hp
        simpa using this
      obtain ⟨q, hq⟩ : ∃ q : Nat, ww = (q : Int) := ⟨ww.toNat, by omega⟩
      subst hq
      have hmk := fun W : World => run_make_row' (P := Try.prog) 49 3 (.int .i64 0) 8 Try.underlying49 size_int rfl .i64 .i64 q (by omega) (by omega) W
      obtain ⟨i0, hi0, hz0, hz1, hz2⟩ := info_parts size_rect
      have hbm := hb2'.alloc hb2'.size (.cells (madeCells #[.int .i64 0] q) 3)
      have hg0 : Hid ((w1.alloc (.cells (madeCells #[.int .i64 0] q) 3)).heap[w1.heap.size]? = some (.cells (cellsI (List.replicate q 0)).toArray 3 (0, 0))) := by
        refine Lib.hid ?_
        rw [heap_alloc_new, toList_madeCells_one']; simp [cellsI]
      have hwg : w.heap.size ≤ w1.heap.size := hb2'.size
      have hn' := hP.length
      have hPn := Lib.hid hn'; clear hn'
      go_wp2_with fail
      go_loopw [10, 30] (fun v i wr => ∃ (k : Nat) (out : List Rc) (sky : List Int), k ≤ n ∧ i = .int .i64 k ∧ wr.ownsRow (w1.heap.size + 1) 24 4 v k (cellsR out) ∧
          Hid (wr.heap[w1.heap.size]? = some (.cells (cellsI sky).toArray 3 (0, 0))) ∧ Hid (sky.length = q) ∧ (∀ x ∈ sky, 0 ≤ x ∧ x ≤ 256) ∧ Below w.heap.size w wr ∧ w1.heap.size + 1 ≤ wr.heap.size ∧
          Hid (packGo h (ps.drop k) sky out = packGo h ps (List.replicate q 0) [])) (fun _ i _ => n - (intOf i).toNat)
      case atStart =>
        exact ⟨0, [], List.replicate q 0, Nat.zero_le _, rfl, World.ownsRow_nil _ _ _ _, hg0, Lib.hid (by simp), fun x hx => by rw [List.eq_of_mem_replicate hx]; omega, hbm, by simp, Lib.hid rfl⟩
      case round =>
        obtain ⟨k, out, sky, hk, rfl, hown, hgk, hlk, hsk, hbk, hzk, hgo⟩ := hrel
        by_cases hlt : k < n
        · obtain ⟨ad, p, rfl, hb, hx, hm, hpb, hc0, hc1⟩ := (hP.below hbk (Nat.le_refl _)).get hlt
          obtain ⟨px, py⟩ := p
          have hsp := hsz.out _ hm
          simp only [sizeOk, Bool.and_eq_true] at hsp
          have s1 := texel_iff.1 hsp.1
          have s2 := texel_iff.1 hsp.2
          clear hsp
          obtain ⟨s11, s12⟩ := s1
          obtain ⟨s21, s22⟩ := s2
          have hstep : Hid (ps.drop k = ⟨px, py⟩ :: ps.drop (k + 1)) := Lib.hid (drop_cons' _ _ _ hx)
          clear hx
          have hI := ints_of_block hlk.out (by omega) hsk hgk.out
          have hfd := Lib.hid (find_any _ _ q q sky px py h (wr.alloc (.cells #[.int .i64 px, .int .i64 py] 45)) (hI.below ((Below.refl (w1.heap.size + 1) _).alloc hzk _) (Nat.le_refl _)) (Nat.le_refl _) (by unfold maxLen; omega) hsk (by omega) ⟨s11, s12⟩ ⟨s21, s22⟩ ⟨r21, r22⟩)
          obtain ⟨⟨a, b, f⟩, hst⟩ : ∃ s, findS sky px py h = s := ⟨_, rfl⟩
          have hfr := findS_range sky px py h s11 hsk
          rw [hst] at hfr
          have hfd' := hfd.out
          rw [hst] at hfd'
          have HFD := Lib.hid hfd'
          clear hfd hfd'
          simp only at hfr
          obtain ⟨f1, f2, f3, f4, f5⟩ := hfr
          rw [hlk.out] at f2 f5
          have HST := Lib.hid hst; clear hst
          have hwr : w.heap.size ≤ wr.heap.size := hbk.size
          go_wp2_with fail
          refine HFD.out.mono ?_
          rintro e w' ⟨rfl, rfl⟩
          have hcons := packGo_cons h ⟨px, py⟩ (ps.drop (k + 1)) sky out HST.out
          cases f with
          | false =>
            clear f5
            rw [if_neg (by simp), ← hstep.out, hgo.out] at hcons
            have HC := Lib.hid hcons; clear hcons
            go_wp2_with fail
            go_ret2
            exact PackRes.no (packS_full hok.out HC.out) rfl (hbk.alloc hwr _)
          | true =>
            obtain ⟨f5, f6⟩ := f5 rfl
            rw [if_pos rfl, ← hstep.out, hgo.out] at hcons
            have HC := Lib.hid hcons; clear hcons
            go_wp2_with fail
            refine (rise_int w1.heap.size sky a px (b + py) q _ _ ?_ hlk.out f1 (by omega) (by omega) (by omega)).mono ?_
            · rw [Below.heap_alloc _ _ _ (by omega)]; exact hgk.out
            rintro e w3 ⟨rfl, hg3, hgr3⟩
            have HG3 := Lib.hid hg3; clear hg3
            have hbox : ∀ j, w3.cell? ⟨wr.heap.size, j, none⟩ = (#[.int .i64 px, .int .i64 py] : Array Value)[j]? := fun j => by
              rw [hgr3.cell_far _ (by simp) (by simp; omega), World.cell?_alloc_new]
            have b0 := hbox 0
            have b1 := hbox 1
            simp at b0 b1
            clear hbox
            have hz3 : wr.heap.size < w3.heap.size := by have := hgr3.size; simp at this; omega
            have hb3 : Below w.heap.size w w3 := (hbk.alloc hwr _).grown hgr3 (by simp; omega) (fun k hk => by simp at hk; omega)
            have hown3 := own_kept (hown.alloc _) hgr3 (Nat.lt_succ_self _)
            clear hgr3
            have hz30 : w1.heap.size + 1 ≤ w3.heap.size := by omega
            go_wp2_with (at_builtin; refine wpList_append_lies _ rfl (.tmp 56) (.tmp 64) _ rfl (w1.heap.size + 1) 24 i0 _ 4 32 Try.underlying26 hi0 hz0 hz1 hz2 rfl (by decide) _ k (cellsR out) rfl (hown3.alloc _) ⟨w3.heap.size, 0, none⟩ 1 1 [.int .i64 a, .int .i64 b, .int .i64 px, .int .i64 py] rfl rfl (World.news_of_block (heap_alloc_new _ _)) (by simp [Value.oneCell']) (by decide) (by unfold maxLen; omega) (by omega) (by simp; omega) _ rfl ?_; intro g4 cap4 w4 hown4 hgr4 hat4 hlt4)
            go_roundw
            case rel =>
              have hbk4 : ∀ j, u10.ownBlock = some j → w1.heap.size + 1 ≤ j := fun j hj => (hown.lt j hj).1
              refine ⟨k + 1, out ++ [⟨a, b, px, py⟩], riseTo sky a.toNat (b + py) px.toNat, by omega, by go_num, by simpa [cellsR, cells4] using hown4, Lib.hid ?_, Lib.hid (by rw [riseTo_length]; exact hlk.out), fun y hy => ?_, ?_, ?_, Lib.hid HC.out.symm⟩
              · rw [hgr4.block _ (by simp; omega) (fun e => by have := hbk4 _ e.symm; omega), Below.heap_alloc _ _ _ (by omega)]; exact HG3.out
              · rcases mem_riseTo hy with rfl | hy
                · omega
                · exact hsk y hy
              · exact (hb3.alloc hb3.size _).grown hgr4 (by simp; omega) (fun j hj => by have := hbk4 j hj; omega)
              · have := hgr4.size; simp at this; omega
            case measure => simp [intOf]; omega
        · obtain ⟨A', c', rfl⟩ := own_shape hown
          obtain rfl : k = n := by omega
          go_wp2_with fail
          go_ret2
          have e := hgo.out
          rw [List.drop_of_length_le (Nat.le_of_eq hPn.out)] at e
          unfold PackRes
          rw [packS_yes hok.out e.symm]
          have hlo : out.length = k := by have := hown.1; rw [cellsR_length] at this; omega
          refine ⟨A', c', ?_, ?_, hbk⟩
          · simp only [hlo]; rfl
          · simp only [hlo]; exact own_mono hown (by omega)
end Go.Proofs.Ytneoacbacflehaa
