/-
  THE LAW WideTells.
-/
import Derived.Test.YtcllghcplphijaaDoorWideLawB
import Derived.Test.YtcllghcplphijaaDoorWideRefE
import Derived.Test.YtcllghcplphijaaDoorWideText
set_option linter.unusedVariables false
set_option linter.unusedSimpArgs false
set_option maxRecDepth 8000
namespace Go.Proofs.YtcllghcplphijaaDoor
open Go.RowKit

set_option maxHeartbeats 6400000 in
theorem widetells_any (a b : Pt) (n : Int) (w : World) (ha : a.b) (hb : b.b) (hn : i64b n) (hT : TabB w) : Calls Tryd.prog 3 #[ptV a, ptV b, .int .i64 n] w (fun e w' => e = .returned (.bool true) ∧ Below w.heap.size w w') := by
  have K1 := Lib.hid (fun W => wint_any a W ha)
  have K2 := Lib.hid (fun W => rint_any a W ha)
  have K3 := Lib.hid (fun W => wdiv_any a n W ha hn)
  have K4 := Lib.hid (fun W => rdiv_any a n W ha hn)
  have T1 := Lib.hid (fun W hW => widened_any W hW)
  have K5 := Lib.hid (fun W => wcmp_any a b W ha hb)
  have K6 := Lib.hid (fun W => rcmp_any a b W ha hb)
  have K7 := Lib.hid (fun W hW => wtext_any a W ha hW)
  have K8 := Lib.hid (fun W => rtext_any a W ha)
  obtain ⟨⟨r1, r2⟩, h1⟩ : ∃ r, wInt a = r := ⟨_, rfl⟩
  obtain ⟨⟨⟨q1, q2⟩, lf, er⟩, h2⟩ : ∃ r, wDiv a n = r := ⟨_, rfl⟩
  obtain ⟨cm, h3⟩ : ∃ r, wCmp a b = r := ⟨_, rfl⟩
  obtain ⟨tx, h4⟩ : ∃ r, wText a = r := ⟨_, rfl⟩
  rw [h1] at K1 K2
  rw [h2] at K3 K4
  rw [h3] at K5 K6
  rw [h4] at K7 K8
  obtain ⟨a1, a2⟩ := a
  obtain ⟨b1, b2⟩ := b
  unfold NE PNE SR ptV at *
  simp only at K1 K2 K3 K4 K5 K6 K7 K8
  have HTB := Lib.hid hT; clear hT h1 h2 h3 h4 ha hb hn
  obtain ⟨s1, s2, hb0, hz0⟩ := two_slots w [.int .i64 a1, .int .i64 a2] [.int .i64 b1, .int .i64 b2] #[.int .i64 a1, .int .i64 a2] #[.int .i64 b1, .int .i64 b2] 23 23 rfl rfl
  go_enter Tryd.func3, Tryd.ntmps3
  have ca0 := s1.c 0 _ rfl
  have ca1 := s1.c 1 _ rfl
  go_wp2_with fail
  clear ca0 ca1
  generalize (w.alloc (.cells #[.int .i64 a1, .int .i64 a2] 23)).alloc (.cells #[.int .i64 b1, .int .i64 b2] 23) = V0 at s1 s2 hb0 hz0 ⊢
  have Ha := Lib.hid s1; have Hb := Lib.hid s2
  clear s1 s2
  have HB := Lib.hid hb0; clear hb0
  refine (K1.out _).mono ?_
  clear K1
  rintro e w1 ⟨rfl, bb⟩
  have Ha := Lib.hid (Ha.out.below bb (by omega))
  have Hb := Lib.hid (Hb.out.below bb (by omega))
  have HB := Lib.hid (HB.out.trans (bb.mono HB.out.size))
  have hzw1 := bb.size
  clear bb
  have la : w.heap.size < w1.heap.size := by omega
  have ca0 := Ha.out.c 0 _ rfl
  have ca1 := Ha.out.c 1 _ rfl
  go_wp2_with fail
  clear ca0 ca1
  refine (K2.out _).mono ?_
  clear K2
  rintro e w2 ⟨rfl, bb⟩
  have Ha := Lib.hid (Ha.out.below bb (by omega))
  have Hb := Lib.hid (Hb.out.below bb (by omega))
  have HB := Lib.hid (HB.out.trans (bb.mono HB.out.size))
  have hzw2 := bb.size
  clear bb
  have la : w.heap.size < w2.heap.size := by omega
  have ca0 := Ha.out.c 0 _ rfl
  have ca1 := Ha.out.c 1 _ rfl
  go_wp2_with fail
  clear ca0 ca1
  refine (K3.out _).mono ?_
  clear K3
  rintro e w3 ⟨rfl, bb⟩
  have Ha := Lib.hid (Ha.out.below bb (by omega))
  have Hb := Lib.hid (Hb.out.below bb (by omega))
  have HB := Lib.hid (HB.out.trans (bb.mono HB.out.size))
  have hzw3 := bb.size
  clear bb
  obtain ⟨s1, hb1, hz1⟩ := one_slot w3 [.int .i64 q1, .int .i64 q2] #[.int .i64 q1, .int .i64 q2] 23 rfl
  have la : w.heap.size < w3.heap.size := by omega
  have ca0 := Ha.out.c 0 _ rfl
  have ca1 := Ha.out.c 1 _ rfl
  go_wp2_with fail
  generalize w3.alloc (.cells #[.int .i64 q1, .int .i64 q2] 23) = V4 at s1 hb1 hz1 ⊢
  have Ha := Lib.hid (Ha.out.below hb1 (by omega))
  have Hb := Lib.hid (Hb.out.below hb1 (by omega))
  have Hq := Lib.hid s1
  have HB := Lib.hid (HB.out.trans (hb1.mono HB.out.size))
  clear s1 hb1
  have hzV4 := hz1; clear hz1
  clear ca0 ca1
  refine (K4.out _).mono ?_
  clear K4
  rintro e w5 ⟨rfl, bb⟩
  have Ha := Lib.hid (Ha.out.below bb (by omega))
  have Hb := Lib.hid (Hb.out.below bb (by omega))
  have Hq := Lib.hid (Hq.out.below bb (by omega))
  have HB := Lib.hid (HB.out.trans (bb.mono HB.out.size))
  have hzw5 := bb.size
  clear bb
  obtain ⟨s1, hb1, hz1⟩ := one_slot w5 [.int .i64 q1, .int .i64 q2] #[.int .i64 q1, .int .i64 q2] 23 rfl
  go_wp2_with fail
  generalize w5.alloc (.cells #[.int .i64 q1, .int .i64 q2] 23) = V6 at s1 hb1 hz1 ⊢
  have Ha := Lib.hid (Ha.out.below hb1 (by omega))
  have Hb := Lib.hid (Hb.out.below hb1 (by omega))
  have Hq := Lib.hid (Hq.out.below hb1 (by omega))
  have Hr := Lib.hid s1
  have HB := Lib.hid (HB.out.trans (hb1.mono HB.out.size))
  clear s1 hb1
  have hzV6 := hz1; clear hz1
  have lq : w3.heap.size < V6.heap.size := by omega
  have cq0 := Hq.out.c 0 _ rfl
  have cq1 := Hq.out.c 1 _ rfl
  have lr : w5.heap.size < V6.heap.size := by omega
  have cr0 := Hr.out.c 0 _ rfl
  have cr1 := Hr.out.c 1 _ rfl
  have la : w.heap.size < V6.heap.size := by omega
  have ca0 := Ha.out.c 0 _ rfl
  have ca1 := Ha.out.c 1 _ rfl
  have lb : w.heap.size + 1 < V6.heap.size := by omega
  have cb0 := Hb.out.c 0 _ rfl
  have cb1 := Hb.out.c 1 _ rfl
  try simp only [List.append]
  go_region_held3 (fun w' => w'.cell? ⟨w3.heap.size, 0, none⟩ = some (.int .i64 q1) ∧ w'.cell? ⟨w3.heap.size, 1, none⟩ = some (.int .i64 q2) ∧ w'.cell? ⟨w5.heap.size, 0, none⟩ = some (.int .i64 q1) ∧ w'.cell? ⟨w5.heap.size, 1, none⟩ = some (.int .i64 q2) ∧ w'.cell? ⟨w.heap.size, 0, none⟩ = some (.int .i64 a1) ∧ w'.cell? ⟨w.heap.size, 1, none⟩ = some (.int .i64 a2) ∧ w'.cell? ⟨w.heap.size + 1, 0, none⟩ = some (.int .i64 b1) ∧ w'.cell? ⟨w.heap.size + 1, 1, none⟩ = some (.int .i64 b2))
    (refine ⟨?_, ?_, ?_, ?_, ?_, ?_, ?_, ?_⟩ <;> (first | with_reducible assumption | (rw [hby.cell (by (try dsimp only); omega)]; with_reducible assumption) | (go_keep; done)))
    (first
      | (go_at_call 13; refine (T1.out _ (HTB.out.on HB.out.drew)).mono ?_; clear T1; rintro e wx ⟨rfl, hbx⟩; have hby : Below V6.heap.size V6 wx := (Below.refl _ V6).drew.trans (hbx.mono (by simp)))
      | (go_at_call 14; refine (K5.out _).mono ?_; clear K5; rintro e wx ⟨rfl, hbx⟩; have hby : Below V6.heap.size V6 wx := hby.trans (hbx.mono hby.size))
      | (go_at_call 15; refine (K6.out _).mono ?_; clear K6; rintro e wx ⟨rfl, hbx⟩; have hby : Below V6.heap.size V6 wx := hby.trans (hbx.mono hby.size))
      | (go_at_call 16; refine (K7.out _ (HTB.out.on (HB.out.trans (hby.mono HB.out.size)))).mono ?_; clear K7; rintro e wx ⟨rfl, hbx⟩; have hby : Below V6.heap.size V6 wx := hby.trans (hbx.mono hby.size))
      | (go_at_call 17; refine (K8.out _).mono ?_; clear K8; rintro e wx ⟨rfl, hbx⟩; have hby : Below V6.heap.size V6 wx := hby.trans (hbx.mono hby.size)))
  go_wp2_with fail
  go_ret
  exact ⟨rfl, HB.out.trans (hby.mono (by have := HB.out.size; omega))⟩
end Go.Proofs.YtcllghcplphijaaDoor
