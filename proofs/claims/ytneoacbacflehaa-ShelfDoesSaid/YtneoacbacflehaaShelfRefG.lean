/-
  THE WALK OF limewashref17.Pack.
-/
import Derived.Test.YtneoacbacflehaaShelfRefF
import Derived.Test.YtneoacbacflehaaShelfRefC
import Derived.Test.YtneoacbacflehaaShelfWalkC
set_option linter.unusedVariables false
set_option linter.unusedSimpArgs false
namespace Go.Proofs.Ytneoacbacflehaa
open Go.RowKit

theorem packOk_no {ww h : Int} {ps : List Pt} (h1 : texel ww = false ∨ texel h = false ∨ ∃ p ∈ ps, sizeOk p = false) : packOk ww h ps = false := by
  cases e : packOk ww h ps with
  | false => rfl
  | true =>
    simp only [packOk, Bool.and_eq_true, List.all_eq_true] at e
    rcases h1 with h1 | h1 | ⟨p, hp, h1⟩
    · rw [h1] at e; simp at e
    · rw [h1] at e; simp at e
    · have := e.2 p hp; rw [h1] at this; cases this

theorem riseF_found {sky : List Int} {h : Int} {p : Pt} {a b : Int} (hs : skyOk sky = true) (hh : h ≤ 256) (hp : sizeOk p = true) (hf : findS sky p.x p.y h = (a, b, true)) :
    riseF sky ⟨a, b, p.x, p.y⟩ = (riseTo sky a.toNat (b + p.y) p.x.toNat, 0) := by
  simp only [sizeOk, Bool.and_eq_true] at hp
  obtain ⟨h1, h2⟩ := hp
  have t1 := texel_iff.1 h1
  have t2 := texel_iff.1 h2
  have hr := findS_range sky p.x p.y h t1.1 (skyOk_iff.1 hs).2
  rw [hf] at hr
  obtain ⟨r1, r2, r3, r4, r5⟩ := hr
  obtain ⟨r5, r6⟩ := r5 rfl
  simp only at r1 r2 r3 r4 r5 r6
  rw [riseF_yes (riseOk_iff.2 ⟨hs, ⟨h1, h2⟩, r1, by simp only; omega, r3, by simp only; omega⟩)]
  rfl

set_option maxHeartbeats 1600000 in
theorem rpack_any (A : Option Addr) (n c : Nat) (ps : List Pt) (ww h : Int) (w : World) (hP : Pts w w.heap.size A n ps) (hn : n ≤ 1000) (bw : i64b ww) (bh : i64b h) :
    Calls Try.prog 15 #[.int .i64 ww, .int .i64 h, .slice A n c] w (PackRes ww h ps w) := by
  have hPn := Lib.hid hP.length
  have W := Lib.hid (fun x V => rwithin_any x V)
  cases s1 : texel ww
  · have HW := Lib.hid (W.out ww w); rw [s1] at HW
    go_enter Try.func15, Try.ntmps15
    go_wp2_with fail
    refine HW.out.mono ?_
    rintro e w1 ⟨rfl, rfl⟩
    go_wp2_with fail
    go_ret2
    exact PackRes.no (packS_no (packOk_no (.inl s1))) rfl (Below.refl _ _)
  have HW := Lib.hid (W.out ww w); rw [s1] at HW
  cases s2 : texel h
  · have HH := Lib.hid (W.out h w); rw [s2] at HH
    go_enter Try.func15, Try.ntmps15
    go_wp2_with fail
    refine HW.out.mono ?_
    rintro e w1 ⟨rfl, rfl⟩
    go_wp2_with fail
    refine HH.out.mono ?_
    rintro e w1 ⟨rfl, rfl⟩
    go_wp2_with fail
    go_ret2
    exact PackRes.no (packS_no (packOk_no (.inr (.inl s2)))) rfl (Below.refl _ _)
  have HH := Lib.hid (W.out h w); rw [s2] at HH
  have r1 := texel_iff.1 s1
  have r2 := texel_iff.1 s2
  have S1 := Lib.hid s1; clear s1
  have S2 := Lib.hid s2; clear s2
  obtain ⟨r11, r12⟩ := r1
  obtain ⟨r21, r22⟩ := r2
  obtain ⟨q, hq⟩ : ∃ q : Nat, ww = (q : Int) := ⟨ww.toNat, by omega⟩
  subst hq
  have hpn' := hP.len
  go_enter Try.func15, Try.ntmps15
  go_wp2_with fail
  refine HW.out.mono ?_
  rintro e w1 ⟨rfl, rfl⟩
  go_wp2_with fail
  refine HH.out.mono ?_
  rintro e w1 ⟨rfl, rfl⟩
  go_wp2_with fail
  -- the sizes
  go_loopw [8] (fun i wr => ∃ k : Nat, k ≤ n ∧ i = .int .i64 k ∧ Hid (∀ p ∈ ps.take k, sizeOk p = true) ∧ wr = w1) (fun i _ => n - (intOf i).toNat)
  case atStart => exact ⟨0, by omega, rfl, Lib.hid (fun p hp => by simp at hp), rfl⟩
  case round =>
    obtain ⟨k, hk, rfl, hsz, rfl⟩ := hrel
    by_cases hlt : k < n
    · obtain ⟨ad, p, rfl, hb, hx, hm, hpb, hc0, hc1⟩ := hP.get hlt
      obtain ⟨px, py⟩ := p
      have t0 : decide ((k : Int) < (n : Int)) = true := decide_eq_true (by omega)
      have k0 : (0 : Int) ≤ (k : Int) := by omega
      have k1 : (k : Int) < (n : Int) := by omega
      have HX := Lib.hid hx; clear hx
      have HM := Lib.hid hm; clear hm hpb
      simp only at hc0 hc1
      have W1 := Lib.hid (W.out px wr)
      have W2 := Lib.hid (W.out py wr)
      cases c1 : texel px
      · rw [c1] at W1
        go_wp2_with fail
        refine W1.out.mono ?_
        rintro e w2 ⟨rfl, rfl⟩
        go_wp2_with fail
        go_ret2
        exact PackRes.no (packS_no (packOk_no (.inr (.inr ⟨_, HM.out, by simp [sizeOk, c1]⟩)))) rfl (Below.refl _ _)
      rw [c1] at W1
      cases c2 : texel py
      · rw [c2] at W2
        go_wp2_with fail
        refine W1.out.mono ?_
        rintro e w2 ⟨rfl, rfl⟩
        go_wp2_with fail
        refine W2.out.mono ?_
        rintro e w2 ⟨rfl, rfl⟩
        go_wp2_with fail
        go_ret2
        exact PackRes.no (packS_no (packOk_no (.inr (.inr ⟨_, HM.out, by simp [sizeOk, c2]⟩)))) rfl (Below.refl _ _)
      rw [c2] at W2
      have C1 := Lib.hid c1; clear c1
      have C2 := Lib.hid c2; clear c2
      go_wp2_with fail
      refine W1.out.mono ?_
      rintro e w2 ⟨rfl, rfl⟩
      go_wp2_with fail
      refine W2.out.mono ?_
      rintro e w2 ⟨rfl, rfl⟩
      go_wp2_with fail
      go_roundw
      case rel => exact ⟨k + 1, by omega, by go_num, Lib.hid (fun p hp => by
          rw [take_snoc' _ _ _ HX.out] at hp
          rcases List.mem_append.1 hp with hp | hp
          · exact hsz.out p hp
          · simp only [List.mem_singleton] at hp; subst hp; simp [sizeOk, C1.out, C2.out]), trivial⟩
      case measure => simp only [intOf]; omega
    · have t0 : decide ((k : Int) < (n : Int)) = false := decide_eq_false (by omega)
      have hall : Hid (∀ p ∈ ps, sizeOk p = true) := Lib.hid fun p hp => hsz.out p (by rw [List.take_of_length_le (by rw [hPn.out]; omega)]; exact hp)
      have hok : Hid (packOk q h ps = true) := Lib.hid (by rw [packOk, S1.out, S2.out, List.all_eq_true.2 hall.out]; rfl)
      obtain ⟨wo, rfl⟩ : ∃ wo : World, wo = wr := ⟨_, rfl⟩
      have hmk := fun W : World => run_make_row' (P := Try.prog) 22 3 (.int .i64 0) 8 Try.underlying22 size_int rfl .i64 .i64 q (by omega) (by omega) W
      obtain ⟨i0, hi0, hz0, hz1, hz2⟩ := info_parts size_rect
      have hl0 := World.ownsRow_lit (w := wo) (base := wo.heap.size) (e := 3) (size := 1) (madeCells #[.int .i64 0] q) q (Nat.le_refl _) (by unfold maxLen; omega) (by rw [toList_madeCells_one']; simp)
      rw [show (madeCells #[.int .i64 0] q).toList = cellsI (List.replicate q 0) by rw [toList_madeCells_one']; simp [cellsI]] at hl0
      have hl1 : Hid ((wo.alloc (.cells (madeCells #[.int .i64 0] q) 3)).ownsRow wo.heap.size 3 1 (.slice (some ⟨wo.heap.size, 0, none⟩) q q) q (cellsI (List.replicate q 0))) := Lib.hid hl0
      clear hl0 hsz
      go_wp2_with fail
      go_loopw [9, 10, 11] (fun l v i wr => ∃ (k : Nat) (out : List Rc) (sky : List Int) (A1 : Option Addr) (c1 : Nat), k ≤ n ∧ i = .int .i64 k ∧ wr.ownsRow wo.heap.size 24 4 v k (cellsR out) ∧
          l = .slice A1 q c1 ∧ wr.ownsRow wo.heap.size 3 1 l q (cellsI sky) ∧ l.ownBlock ≠ v.ownBlock ∧ Hid (skyOk sky = true) ∧ Hid (sky.length = q) ∧ Below wo.heap.size wo wr ∧
          Hid (packGo h (ps.drop k) sky out = packGo h ps (List.replicate q 0) [])) (fun _ _ i _ => n - (intOf i).toNat)
      case atStart =>
        exact ⟨0, [], List.replicate q 0, _, _, Nat.zero_le _, rfl, World.ownsRow_nil _ _ _ _, rfl, hl1.out, by simp [Value.ownBlock], Lib.hid (skyOk_iff.2 ⟨by simp; omega, fun x hx => by rw [List.eq_of_mem_replicate hx]; omega⟩), Lib.hid (by simp), (Below.refl _ _).alloc (Nat.le_refl _) _, Lib.hid rfl⟩
      case round =>
        obtain ⟨j, out, sky, A1, c1, hj, rfl, hown, rfl, hrow, hne, hsk, hlk, hbk, hgo⟩ := hrel
        by_cases hlt2 : j < n
        · obtain ⟨ad, p, rfl, hb, hx, hm, hpb, hc0, hc1⟩ := (hP.below hbk (Nat.le_refl _)).get hlt2
          obtain ⟨px, py⟩ := p
          simp only at hc0 hc1
          have hsp := hall.out _ hm
          have hstep : Hid (ps.drop j = ⟨px, py⟩ :: ps.drop (j + 1)) := Lib.hid (drop_cons' _ _ _ hx)
          have j0 : (0 : Int) ≤ (j : Int) := by omega
          have j1 : (j : Int) < (n : Int) := by omega
          have t1 : decide ((j : Int) < (n : Int)) = true := decide_eq_true (by omega)
          have hI := Ints.of_own hrow (fun x hx => by have := (skyOk_iff.1 hsk.out).2 x hx; omega) (by omega)
          obtain ⟨⟨a, b, f⟩, hst⟩ : ∃ s, findS sky px py h = s := ⟨_, rfl⟩
          have hpl : placeS sky px py h = (a, b, f) := by
            rw [placeS_yes, hst]
            simp only [sizeOk, Bool.and_eq_true] at hsp
            rw [hsk.out, hsp.1, hsp.2, S2.out]; rfl
          have HPL : Hid (∀ m : Nat, Calls Try.prog 11 #[.slice A1 q c1, .int .i64 px, .int .i64 py, .int .i64 h] (wr.drewN m) fun e w' => e = .returned (.tuple #[.int .i64 a, .int .i64 b, .bool f]) ∧ w' = wr.drewN m) := Lib.hid fun m => by
            have := rplace_any A1 q c1 sky px py h (wr.drewN m) ⟨hI.rd.drewN m, hI.i64, hI.len⟩
            rwa [hpl] at this
          have hcons := packGo_cons h ⟨px, py⟩ (ps.drop (j + 1)) sky out hst
          have HST := Lib.hid hst; clear hst hpl hx
          have hrf := fun hf : f = true => riseF_found (h := h) hsk.out (by omega) (p := ⟨px, py⟩) hsp (by rw [HST.out, hf])
          have HSP := Lib.hid hsp; clear hsp hm hpb
          cases f with
          | false =>
            rw [if_neg (by simp), ← hstep.out, hgo.out] at hcons
            have HC := Lib.hid hcons; clear hcons hrf
            go_wp2_with fail
            go_quiet ((go_at_call 11; exact Calls.quiet_of_same (HPL.out _)))
            go_wp2_with fail
            go_ret2
            exact PackRes.no (packS_full hok.out HC.out) rfl (below_drewN hbk _)
          | true =>
            rw [if_pos rfl, ← hstep.out, hgo.out] at hcons
            have HC := Lib.hid hcons; clear hcons
            have HRF := Lib.hid (hrf rfl); clear hrf
            have hfr := findS_range sky px py h (by have := texel_iff.1 (show texel px = true by have := HSP.out; simp only [sizeOk, Bool.and_eq_true] at this; exact this.1); omega) (skyOk_iff.1 hsk.out).2
            rw [HST.out] at hfr
            have hrb : Hid (Rc.b ⟨a, b, px, py⟩) := by
              refine Lib.hid ?_
              have h1 := HSP.out
              simp only [sizeOk, Bool.and_eq_true] at h1
              have h2 := texel_iff.1 h1.1
              have h3 := texel_iff.1 h1.2
              obtain ⟨f1, f2, f3, f4, f5⟩ := hfr
              simp only [hlk.out] at f1 f2 f3 f4
              exact ⟨⟨by simp only; omega, by simp only; omega⟩, ⟨by simp only; omega, by simp only; omega⟩, ⟨by simp only; omega, by simp only; omega⟩, ⟨by simp only; omega, by simp only; omega⟩⟩
            have hskN : Hid (skyOk (riseTo sky a.toNat (b + py) px.toNat) = true) := by
              refine Lib.hid (skyOk_iff.2 ⟨by rw [riseTo_length]; exact (skyOk_iff.1 hsk.out).1, fun y hy => ?_⟩)
              rcases mem_riseTo hy with rfl | hy
              · have h1 := HSP.out
                simp only [sizeOk, Bool.and_eq_true] at h1
                have h3 := texel_iff.1 h1.2
                obtain ⟨f1, f2, f3, f4, f5⟩ := hfr
                have f6 := (f5 rfl).2
                simp only at f3 f6 h3
                omega
              · exact (skyOk_iff.1 hsk.out).2 y hy
            clear hfr
            go_wp2_with fail
            go_quiet ((go_at_call 11; exact Calls.quiet_of_same (HPL.out _)))
            go_wp2_with fail
            generalize hW : World.drewN wr _ = W
            have hc0 : W.cell? (ad.add (j * 2)) = some (.int .i64 px) := by rw [← hW]; exact hc0
            have hc1 : W.cell? ⟨(ad.add (j * 2)).block, (ad.add (j * 2)).off + 1, none⟩ = some (.int .i64 py) := by rw [← hW]; exact hc1
            have hbW : Below wo.heap.size wo W := by rw [← hW]; exact below_drewN hbk _
            have hownW : W.ownsRow wo.heap.size 24 4 u10 j (cellsR out) := by rw [← hW]; exact hown
            have hIW : Ints W W.heap.size A1 q sky := by rw [← hW]; exact ⟨hI.rd.drewN _, hI.i64, hI.len⟩
            clear hW hI hrow hown hbk
            have hd0 : ∀ (o : Obj), (W.alloc o).cell? (ad.add (j * 2)) = some (.int .i64 px) := fun o => by rw [World.cell?_alloc_lt _ o _ (by rw [addr_block]; have := hbW.size; omega)]; exact hc0
            have hd1 : ∀ (o : Obj), (W.alloc o).cell? ⟨(ad.add (j * 2)).block, (ad.add (j * 2)).off + 1, none⟩ = some (.int .i64 py) := fun o => by rw [World.cell?_alloc_lt _ o _ (by rw [addr_block]; have := hbW.size; omega)]; exact hc1
            go_region
            go_wp2_with fail
            have hbA : Below W.heap.size W (W.alloc (.cells #[.int .i64 a, .int .i64 b, .int .i64 px, .int .i64 py] 24)).drew := ((Below.refl _ _).alloc (Nat.le_refl _) _).drew
            have hrcN : Hid (RcAt (W.alloc (.cells #[.int .i64 a, .int .i64 b, .int .i64 px, .int .i64 py] 24)).drew W.heap.size ⟨a, b, px, py⟩) := Lib.hid (RcAt.new W ⟨a, b, px, py⟩ 24)
            refine (rrise_any A1 q c1 sky ⟨a, b, px, py⟩ _ ((hIW.below hbA (Nat.le_refl _)).more (by simp)) hrb.out).mono ?_
            intro e w4 h4
            unfold RiseRes at h4
            rw [HRF.out] at h4
            simp only [riseTo_length, hlk.out] at h4
            obtain ⟨A4, c4, rfl, hown4, hb4⟩ := h4
            have hrc4 := hrcN.out.below hb4 (by simp)
            have q0 : w4.cell? ⟨W.heap.size, 0, none⟩ = some (.int .i64 a) := hrc4 0
            have q1 : w4.cell? ⟨W.heap.size, 1, none⟩ = some (.int .i64 b) := hrc4 1
            have q2 : w4.cell? ⟨W.heap.size, 2, none⟩ = some (.int .i64 px) := hrc4 2
            have q3 : w4.cell? ⟨W.heap.size, 3, none⟩ = some (.int .i64 py) := hrc4 3
            have hownV := own_below hownW (hbA.trans (hb4.mono (by simp))) (Nat.le_refl _)
            have hb04 : Below wo.heap.size wo w4 := hbW.trans ((hbA.trans (hb4.mono (by simp))).mono hbW.size)
            have hz4 : W.heap.size + 1 ≤ w4.heap.size := by have := hb4.size; simpa using this
            have hzW : wo.heap.size ≤ W.heap.size := hbW.size
            have hbk4 : ∀ i, u10.ownBlock = some i → wo.heap.size ≤ i ∧ i < W.heap.size := fun i hi => hownW.lt i hi
            clear hrc4 hrcN hb4 hownW hIW hbA hd0 hd1 hc0 hc1 hbW
            simp only [World.size_drew, World.size_alloc] at hown4
            go_wp2_with (at_builtin; refine wpList_append_lies _ rfl (.tmp 95) (.tmp 97) _ rfl wo.heap.size 24 i0 _ 4 32 Try.underlying26 hi0 hz0 hz1 hz2 rfl (by decide) _ j (cellsR out) rfl (hownV.alloc _) ⟨w4.heap.size, 0, none⟩ 1 1 [.int .i64 a, .int .i64 b, .int .i64 px, .int .i64 py] rfl rfl (World.news_of_block (heap_alloc_new _ _)) (by simp [Value.oneCell']) (by decide) (by unfold maxLen; omega) (by omega) (by simp; omega) _ rfl ?_; intro g5 cap5 w5 hown5 hgr5 hat5 hlt5)
            go_roundw
            case rel =>
              have hsl : ∀ i, (Value.slice A4 q c4).ownBlock = some i → W.heap.size + 1 ≤ i := fun i hi => (hown4.lt i hi).1
              have hne4 : (Value.slice A4 q c4).ownBlock ≠ u10.ownBlock := fun e => by
                cases hA : (Value.slice A4 q c4).ownBlock with
                | none => rcases hown4.2 with ⟨hv, h0⟩ | ⟨g, cap, cur, hv, _⟩
                          · omega
                          · rw [hv] at hA; cases hA
                | some i => have h1 := hsl i hA; have h2 := hbk4 i (e ▸ hA); omega
              have hlt4 : ∀ i, (Value.slice A4 q c4).ownBlock = some i → i < w4.heap.size := fun i hi => (hown4.lt i hi).2
              refine ⟨j + 1, out ++ [⟨a, b, px, py⟩], riseTo sky a.toNat (b + py) px.toNat, A4, c4, by omega, by go_num, by simpa [cellsR, cells4] using hown5, rfl, own_mono ((hown4.alloc _).kept hgr5 (.inr hne4)) (by omega), fun e => ?_, Lib.hid hskN.out, Lib.hid (by rw [riseTo_length]; exact hlk.out), ?_, Lib.hid HC.out.symm⟩
              · have e' : (Value.slice A4 q c4).ownBlock = some g5 := e
                rcases hat5 with h5 | h5
                · have h1 := hsl _ e'; have h2 := hbk4 _ h5; omega
                · have h1 := hlt4 _ e'; simp at h5; omega
              · exact (hb04.alloc (by omega) _).grown hgr5 (by simp; omega) (fun i hi => (hbk4 i hi).1)
            case measure => simp only [intOf]; omega
        · have t1 : decide ((j : Int) < (n : Int)) = false := decide_eq_false (by omega)
          obtain ⟨A', c', rfl⟩ := own_shape hown
          obtain rfl : j = n := by omega
          go_wp2_with fail
          go_ret2
          have e := hgo.out
          rw [List.drop_of_length_le (Nat.le_of_eq hPn.out)] at e
          unfold PackRes
          rw [packS_yes hok.out e.symm]
          have hlo : out.length = j := by have := hown.1; rw [cellsR_length] at this; omega
          refine ⟨A', c', ?_, ?_, hbk⟩
          · simp only [hlo]; rfl
          · simp only [hlo]; exact own_mono hown (by omega)
end Go.Proofs.Ytneoacbacflehaa
