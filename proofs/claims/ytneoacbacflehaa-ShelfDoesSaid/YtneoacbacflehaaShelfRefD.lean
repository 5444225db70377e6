/-
  THE WALK OF limewashref17.Is.
-/
import Derived.Test.YtneoacbacflehaaShelfRefB
set_option linter.unusedVariables false
set_option linter.unusedSimpArgs false
namespace Go.Proofs.Ytneoacbacflehaa
open Go.RowKit

theorem freeS_comm (x n y m : Int) : freeS x n y m = freeS y m x n := by
  unfold freeS
  cases decide (n ≤ 0) <;> cases decide (m ≤ 0) <;> cases decide (x + n ≤ y) <;> cases decide (y + m ≤ x) <;> rfl
theorem apartS_comm (a b : Rc) : apartS a b = apartS b a := by
  unfold apartS
  rw [freeS_comm a.x, freeS_comm a.y]

attribute [local go_sem ↓] Go.wp_at_zero Go.wp_at_succ
set_option maxHeartbeats 3200000 in
theorem ris_any (A : Option Addr) (n c : Nat) (l : List Rc) (ww h : Int) (w : World) (hR : Rects w w.heap.size A n l) (hw : i64b ww) (hh : i64b h) :
    Calls Try.prog 20 #[.int .i64 ww, .int .i64 h, .slice A n c] w fun e w' => e = .returned (.bool (isS ww h l)) ∧ Below w.heap.size w w' := by
  have hn := hR.len
  have hl := Lib.hid hR.length
  have HI := Lib.hid (fun (r : Rc) (W : World) (hr : r.b) => inside_any ww h r W hw hh hr)
  have HA := Lib.hid (fun (a b : Rc) (W : World) (ha : a.b) (hb : b.b) => rapart_any a b W ha hb)
  clear hw hh
  go_enter Try.func20, Try.ntmps20
  go_wp2_with fail
  go_loopw [7] (fun i wr => ∃ k : Nat, k ≤ n ∧ i = .int .i64 k ∧ Hid (isTo ww h l k = true) ∧ Below w.heap.size w wr) (fun i _ => n - (intOf i).toNat)
  case atStart => exact ⟨0, Nat.zero_le _, rfl, Lib.hid rfl, Below.refl _ _⟩
  case round =>
    obtain ⟨k, hk, rfl, hto, hbk⟩ := hrel
    by_cases hlt : k < n
    · have hR1 := hR.below hbk (Nat.le_refl _)
      obtain ⟨ad, r, rfl, hb, hx, hm, hrb, c0, c1, c2, c3⟩ := hR1.get hlt
      have t0 : decide ((k : Int) < (n : Int)) = true := decide_eq_true (by omega)
      have i0 : (0 : Int) ≤ (k : Int) := by omega
      have i1 : (k : Int) < (n : Int) := by omega
      have HX := Lib.hid hx; clear hx hm
      have HN := Lib.hid (HI.out r wr hrb)
      have hsucc : isTo ww h l (k + 1) = (insideS ww h r && (l.take k).all (fun o => apartS o r)) := by simp only [isTo, hto.out, HX.out, Bool.true_and]
      have HSU := Lib.hid hsucc; clear hsucc
      obtain ⟨p, hp⟩ : ∃ p, p = insideS ww h r := ⟨_, rfl⟩
      rw [← hp] at HN HSU
      clear hp
      go_wp2_with fail
      refine HN.out.mono ?_
      rintro e w1 ⟨rfl, hb1⟩
      have hbk1 := hbk.trans (hb1.mono hbk.size)
      cases p with
      | false =>
        go_wp2_with fail
        go_ret
        refine ⟨ret_bool ?_, hbk1⟩
        unfold isS
        rw [hl.out]
        exact (isTo_mono ww h l (k := k + 1) (by omega) (by rw [HSU.out]; rfl)).symm
      | true =>
        clear c0 c1 c2 c3 hb1 hR1
        go_wp2_with fail
        go_loopw [8] (fun i wr => ∃ j : Nat, j ≤ k ∧ i = .int .i64 j ∧ Hid ((l.take j).all (fun o => apartS o r) = true) ∧ Below w.heap.size w wr) (fun i _ => k - (intOf i).toNat)
        case atStart => exact ⟨0, Nat.zero_le _, rfl, Lib.hid rfl, hbk1⟩
        case round =>
          obtain ⟨j, hj, rfl, hall, hbj⟩ := hrel
          by_cases hjk : j < k
          · have hR2 := hR.below hbj (Nat.le_refl _)
            obtain ⟨a1, r', e1, _, hx', _, _, c0, c1, c2, c3⟩ := hR2.get hlt
            obtain ⟨a2, o, e2, _, hy, hmo, hob, f0, f1, f2, f3⟩ := hR2.get (k := j) (by omega)
            injection e1 with e1; subst e1
            injection e2 with e2; subst e2
            obtain rfl : r' = r := by
              have := HX.out
              rw [hx'] at this
              exact Option.some.inj this
            have HY := Lib.hid hy; clear hy hx'
            have t1 : decide ((j : Int) < (k : Int)) = true := decide_eq_true (by omega)
            have j0 : (0 : Int) ≤ (j : Int) := by omega
            have j1 : (j : Int) < (n : Int) := by omega
            have HN := Lib.hid (fun W => HA.out r' o W hrb hob)
            obtain ⟨p, hp⟩ : ∃ p, p = apartS r' o := ⟨_, rfl⟩
            rw [← hp] at HN
            have HP := Lib.hid hp; clear hp
            have hz := hbj.size
            obtain ⟨x1, x2, x3, x4⟩ := r'
            obtain ⟨y1, y2, y3, y4⟩ := o
            simp only at c0 c1 c2 c3 f0 f1 f2 f3 HN
            have hba : ad.block < wr.heap.size := by omega
            go_wp2_with fail
            go_region_held3 (fun w' => w'.cell? (ad.add (k * 4)) = some (.int .i64 x1) ∧ w'.cell? ⟨(ad.add (k * 4)).block, (ad.add (k * 4)).off + 1, none⟩ = some (.int .i64 x2) ∧ w'.cell? ⟨(ad.add (k * 4)).block, (ad.add (k * 4)).off + 2, none⟩ = some (.int .i64 x3) ∧ w'.cell? ⟨(ad.add (k * 4)).block, (ad.add (k * 4)).off + 3, none⟩ = some (.int .i64 x4) ∧ w'.cell? (ad.add (j * 4)) = some (.int .i64 y1) ∧ w'.cell? ⟨(ad.add (j * 4)).block, (ad.add (j * 4)).off + 1, none⟩ = some (.int .i64 y2) ∧ w'.cell? ⟨(ad.add (j * 4)).block, (ad.add (j * 4)).off + 2, none⟩ = some (.int .i64 y3) ∧ w'.cell? ⟨(ad.add (j * 4)).block, (ad.add (j * 4)).off + 3, none⟩ = some (.int .i64 y4))
              (refine ⟨?_, ?_, ?_, ?_, ?_, ?_, ?_, ?_⟩ <;> (first | with_reducible assumption | (rw [World.cell?_drew]; with_reducible assumption) | (rw [hby.cell (by (try dsimp only); rw [addr_block]; omega)]; with_reducible assumption) | (go_keep; done)))
              (first | (go_at_call 22; refine (HN.out _).mono ?_; rintro e wx ⟨rfl, hbx⟩; have hby : Below wr.heap.size wr wx := (Below.refl _ wr).drew.trans (hbx.mono (by simp))))
            have hbj2 := hbj.trans (hby.mono hz)
            clear c0 c1 c2 c3 f0 f1 f2 f3
            cases p with
            | false =>
              go_wp2_with fail
              go_ret
              refine ⟨ret_bool ?_, hbj2⟩
              unfold isS
              rw [hl.out]
              refine (isTo_mono ww h l (k := k + 1) (by omega) ?_).symm
              rw [HSU.out, Bool.true_and]
              exact all_false (x := ⟨y1, y2, y3, y4⟩) (List.mem_of_getElem? (i := j) (by rw [List.getElem?_take, if_pos hjk]; exact HY.out)) (by rw [apartS_comm]; exact HP.out.symm)
            | true =>
              go_wp2_with fail
              go_roundw
              case rel => exact ⟨j + 1, by omega, by go_num, Lib.hid (by rw [take_snoc' _ _ _ HY.out, List.all_append, hall.out, List.all_cons, List.all_nil, apartS_comm, ← HP.out]; rfl), hbj2⟩
              case measure => simp only [intOf]; omega
          · have t1 : decide ((j : Int) < (k : Int)) = false := decide_eq_false (by omega)
            obtain rfl : j = k := by omega
            go_wp2_with fail
            go_roundw
            case rel => exact ⟨j + 1, by omega, by go_num, Lib.hid (by rw [HSU.out, hall.out]; rfl), hbj⟩
            case measure => simp only [intOf]; omega
    · have t0 : decide ((k : Int) < (n : Int)) = false := decide_eq_false (by omega)
      obtain rfl : k = n := by omega
      go_wp2_with fail
      go_ret
      exact ⟨ret_bool (by unfold isS; rw [hl.out, hto.out]), hbk⟩
end Go.Proofs.Ytneoacbacflehaa
