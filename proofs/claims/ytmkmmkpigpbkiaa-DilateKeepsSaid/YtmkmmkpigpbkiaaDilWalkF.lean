/-
  THE WALK OF near.
-/
import Derived.Test.YtmkmmkpigpbkiaaDilWalkE
import Derived.Test.YtmkmmkpigpbkiaaMixIn
import Derived.Laws.EntriesVeiled
set_option linter.unusedVariables false
set_option linter.unusedSimpArgs false
namespace Go.Proofs.Ytmkmmkpigpbkiaa
open Go.RowKit Go.Shelf

attribute [local go_sem] Oper.semAt_some

theorem ring_stops (F : Fence) (m : Nat) (hF : F.fn 35) (hro : F.round = none) (hm : 1 ≤ m) (bp bx by' bf q n c : Nat) (h x y far : Int) (A : Option Addr)
    (hq : q ≤ 256) (hh : h ≤ 256) (hx0 : 0 ≤ x) (hx1 : x < q) (hy0 : 0 ≤ y) (hy1 : y < h) (hf0 : 0 ≤ far) (hf1 : far ≤ 8) (w : World) (hR : RingAt w w.heap.size bp bx by' bf q n c h x y far A) :
    SeqStopsK F m Try.prog 35 #[.pointer (some ⟨by', 0, none⟩), .pointer (some ⟨bf, 0, none⟩), .pointer (some ⟨bp, 0, none⟩), .pointer (some ⟨bx, 0, none⟩)] (fun t : TxI q h => #[ptV t.1]) (Below w.heap.size)
      (fun ys => vals ys = ringL x y far q h) (fun pre => vals pre <+: ringL x y far q h) (ringL x y far q h).length w := fun l J Jx W hW _ _ hY h0 =>
  ring1_in F m hF hro hm l w.heap.size bp bx by' bf q n c h x y far A J Jx hq hh hx0 hx1 hy0 hy1 hf0 hf1 hY W (hR.below hW) h0

/-- near's variables: the picture, the texel found, whether it is found, the question -/
structure NearAt (W : World) (H q n c : Nat) (h : Int) (A : Option Addr) (v : List Int) (t : Pt) (b : Bool) : Prop where
  p : PicAt W H H q h A n c v
  a : SlotN W (H + 1) [.int .i64 t.x, .int .i64 t.y]
  fd : SlotN W (H + 1 + 1) [.bool b]
  hs : W.cell? ⟨H + 1 + 1 + 1, 0, none⟩ = some (.func (.func 26) #[] #[.pointer (some ⟨H, 0, none⟩)])
  z : H + 4 ≤ W.heap.size
theorem NearAt.below {W W' : World} {H q n c D : Nat} {h : Int} {A : Option Addr} {v : List Int} {t : Pt} {b : Bool} (k : NearAt W H q n c h A v t b) (hb : Below D W W') (hD : H + 4 ≤ D) : NearAt W' H q n c h A v t b :=
  ⟨k.p.below hb (by omega) (by omega), k.a.below hb (by omega), k.fd.below hb (by omega), by rw [hb.cell (by simp; omega)]; exact k.hs, Nat.le_trans k.z hb.size⟩
theorem NearAt.new (w : World) (q n c : Nat) (h : Int) (A : Option Addr) (v : List Int) (hI : Ints w w.heap.size A n v) (t1 t2 t3 t4 : TypeId) :
    NearAt ((((w.alloc (.cells #[.int .i64 q, .int .i64 h, .slice A n c] t1)).alloc (.cells #[.int .i64 0, .int .i64 0] t2)).alloc (.cells #[.bool false] t3)).alloc (.cells #[.func (.func 26) #[] #[.pointer (some ⟨w.heap.size, 0, none⟩)]] t4)) w.heap.size q n c h A v ⟨0, 0⟩ false := by
  have s0 := SlotN.new w [.int .i64 q, .int .i64 h, .slice A n c] #[.int .i64 q, .int .i64 h, .slice A n c] t1 rfl
  generalize hW1 : w.alloc (.cells #[.int .i64 q, .int .i64 h, .slice A n c] t1) = W1 at s0 ⊢
  have z1 : W1.heap.size = w.heap.size + 1 := by rw [← hW1]; simp
  have s1 := SlotN.new W1 [.int .i64 0, .int .i64 0] #[.int .i64 0, .int .i64 0] t2 rfl
  rw [z1] at s1
  have b1 : Below w.heap.size w W1 := by rw [← hW1]; exact (Below.refl _ _).alloc (Nat.le_refl _) _
  clear hW1
  have c1 : Below (w.heap.size + 1) W1 (W1.alloc (.cells #[.int .i64 0, .int .i64 0] t2)) := (Below.refl _ _).alloc (by omega) _
  generalize hW2 : W1.alloc (.cells #[.int .i64 0, .int .i64 0] t2) = W2 at s1 c1 ⊢
  have z2 : W2.heap.size = w.heap.size + 1 + 1 := by rw [← hW2]; simp [z1]
  have s2 := SlotN.new W2 [.bool false] #[.bool false] t3 rfl
  rw [z2] at s2
  clear hW2
  have c2 : Below (w.heap.size + 1 + 1) W2 (W2.alloc (.cells #[.bool false] t3)) := (Below.refl _ _).alloc (by omega) _
  generalize hW3 : W2.alloc (.cells #[.bool false] t3) = W3 at s2 c2 ⊢
  have z3 : W3.heap.size = w.heap.size + 1 + 1 + 1 := by rw [← hW3]; simp [z2]
  have s3 := SlotN.new W3 [.func (.func 26) #[] #[.pointer (some ⟨w.heap.size, 0, none⟩)]] #[.func (.func 26) #[] #[.pointer (some ⟨w.heap.size, 0, none⟩)]] t4 rfl
  rw [z3] at s3
  clear hW3
  have c3 : Below (w.heap.size + 1 + 1 + 1) W3 (W3.alloc (.cells #[.func (.func 26) #[] #[.pointer (some ⟨w.heap.size, 0, none⟩)]] t4)) := (Below.refl _ _).alloc (by omega) _
  have s0' := ((s0.below c1 (by omega)).below c2 (by omega)).below c3 (by omega)
  have s1' := (s1.below c2 (by omega)).below c3 (by omega)
  have s2' := s2.below c3 (by omega)
  have bb : Below w.heap.size w (W3.alloc (.cells #[.func (.func 26) #[] #[.pointer (some ⟨w.heap.size, 0, none⟩)]] t4)) := ((b1.trans (c1.mono (by omega))).trans (c2.mono (by omega))).trans (c3.mono (by omega))
  exact ⟨⟨s0'.c 0 _ rfl, s0'.c 1 _ rfl, s0'.c 2 _ rfl, hI.below bb (Nat.le_refl _)⟩, s1', s2', s3.c 0 _ rfl, by simp [z3]⟩

/-- the world with the texel found -/
def foundB (W : World) (H : Nat) (t : Pt) (b : Bool) : World := ((W.setCell ⟨H + 1, 0, none⟩ (.int .i64 t.x)).setCell ⟨H + 1, 1, none⟩ (.int .i64 t.y)).setCell ⟨H + 1 + 1, 0, none⟩ (.bool b)

theorem NearAt.found {W : World} {H q n c : Nat} {h : Int} {A : Option Addr} {v : List Int} {t0 : Pt} {b : Bool} (k : NearAt W H q n c h A v t0 b) (t : Pt) (b' : Bool) : NearAt (foundB W H t b') H q n c h A v t b' := by
  have hb : Below (H + 1) W (foundB W H t b') := (((Below.refl _ _).setCell (p := ⟨H + 1, 0, none⟩) (Nat.le_refl _) _).setCell (p := ⟨H + 1, 1, none⟩) (Nat.le_refl _) _).setCell (p := ⟨H + 1 + 1, 0, none⟩) (by simp) _
  have a0 := k.a.c 0 _ rfl
  have a1 := k.a.c 1 _ rfl
  have f0 := k.fd.c 0 _ rfl
  refine ⟨k.p.below hb (by omega) (by omega), ⟨fun j u hj => ?_, fun j => by simp [foundB]; exact k.a.f j⟩, ⟨fun j u hj => ?_, fun j => by simp [foundB]; exact k.fd.f j⟩, ?_, by simp [foundB]; exact k.z⟩
  · rcases (show j = 0 ∨ j = 1 ∨ 2 ≤ j by omega) with rfl | rfl | h2
    · simp at hj; subst hj
      unfold foundB
      rw [World.cell?_setCell_other _ _ _ _ (by simp), World.cell?_setCell_other _ _ _ _ (by simp), World.cell?_setCell_same' _ _ _ (by rw [a0]; rfl)]
    · simp at hj; subst hj
      unfold foundB
      rw [World.cell?_setCell_other _ _ _ _ (by simp), World.cell?_setCell_same' _ _ _ (by rw [World.cell?_setCell_other _ _ _ _ (by simp), a1]; rfl)]
    · rw [List.getElem?_eq_none (by simp; omega)] at hj; cases hj
  · rcases (show j = 0 ∨ 1 ≤ j by omega) with rfl | h2
    · simp at hj; subst hj
      unfold foundB
      rw [World.cell?_setCell_same' _ _ _ (by rw [World.cell?_setCell_other _ _ _ _ (by simp), World.cell?_setCell_other _ _ _ _ (by simp), f0]; rfl)]
    · rw [List.getElem?_eq_none (by simp; omega)] at hj; cases hj
  · unfold foundB
    rw [World.cell?_setCell_other _ _ _ _ (by simp), World.cell?_setCell_other _ _ _ _ (by simp), World.cell?_setCell_other _ _ _ _ (by simp)]
    exact k.hs
theorem foundW_below {B : Nat} {W W' : World} (h : Below B W W') (H : Nat) (t : Pt) (b : Bool) (hB : H + 4 ≤ B) : Below B (foundB W H t b) (foundB W' H t b) :=
  below_setCells (below_setCells (below_setCells h _ _ (by simp; omega)) _ _ (by simp; omega)) _ _ (by simp; omega)
theorem foundW_keeps (W : World) (H : Nat) (t : Pt) (b : Bool) : KeepsOthers W (foundB W H t b) := ((KeepsOthers.setCell _ _ _).trans (KeepsOthers.setCell _ _ _)).trans (KeepsOthers.setCell _ _ _)
theorem Marks.found {B : Nat} {W : World} {H q n c : Nat} {h : Int} {A : Option Addr} {v : List Int} {t0 : Pt} {b : Bool} {ds : List Deferred} (hm : Marks B W ds) (k : NearAt W H q n c h A v t0 b) (t : Pt) (b' : Bool) : Marks B (foundB W H t b') ds := by
  have a0 := k.a.c 0 _ rfl
  have a1 := k.a.c 1 _ rfl
  have f0 := k.fd.c 0 _ rfl
  unfold foundB
  exact ((hm.setCell _ _ _ a0).setCell _ _ _ (by rw [World.cell?_setCell_other _ _ _ _ (by simp)]; exact a1)).setCell _ _ _ (by rw [World.cell?_setCell_other _ _ _ _ (by simp), World.cell?_setCell_other _ _ _ _ (by simp)]; exact f0)

theorem RingAt.new (w : World) (q n c : Nat) (h x y far : Int) (A : Option Addr) (t1 t2 t3 t4 : TypeId) :
    RingAt ((((w.alloc (.cells #[.int .i64 q, .int .i64 h, .slice A n c] t1)).alloc (.cells #[.int .i64 x] t2)).alloc (.cells #[.int .i64 y] t3)).alloc (.cells #[.int .i64 far] t4)) ((((w.alloc (.cells #[.int .i64 q, .int .i64 h, .slice A n c] t1)).alloc (.cells #[.int .i64 x] t2)).alloc (.cells #[.int .i64 y] t3)).alloc (.cells #[.int .i64 far] t4)).heap.size
      w.heap.size (w.heap.size + 1) (w.heap.size + 1 + 1) (w.heap.size + 1 + 1 + 1) q n c h x y far A := by
  have s0 := SlotN.new w [.int .i64 q, .int .i64 h, .slice A n c] #[.int .i64 q, .int .i64 h, .slice A n c] t1 rfl
  generalize hW1 : w.alloc (.cells #[.int .i64 q, .int .i64 h, .slice A n c] t1) = W1 at s0 ⊢
  have z1 : W1.heap.size = w.heap.size + 1 := by rw [← hW1]; simp
  have s1 := SlotN.new W1 [.int .i64 x] #[.int .i64 x] t2 rfl
  rw [z1] at s1
  clear hW1
  have c1 : Below (w.heap.size + 1) W1 (W1.alloc (.cells #[.int .i64 x] t2)) := (Below.refl _ _).alloc (by omega) _
  generalize hW2 : W1.alloc (.cells #[.int .i64 x] t2) = W2 at s1 c1 ⊢
  have z2 : W2.heap.size = w.heap.size + 1 + 1 := by rw [← hW2]; simp [z1]
  have s2 := SlotN.new W2 [.int .i64 y] #[.int .i64 y] t3 rfl
  rw [z2] at s2
  clear hW2
  have c2 : Below (w.heap.size + 1 + 1) W2 (W2.alloc (.cells #[.int .i64 y] t3)) := (Below.refl _ _).alloc (by omega) _
  generalize hW3 : W2.alloc (.cells #[.int .i64 y] t3) = W3 at s2 c2 ⊢
  have z3 : W3.heap.size = w.heap.size + 1 + 1 + 1 := by rw [← hW3]; simp [z2]
  have s3 := SlotN.new W3 [.int .i64 far] #[.int .i64 far] t4 rfl
  rw [z3] at s3
  clear hW3
  have c3 : Below (w.heap.size + 1 + 1 + 1) W3 (W3.alloc (.cells #[.int .i64 far] t4)) := (Below.refl _ _).alloc (by omega) _
  have s0' := ((s0.below c1 (by omega)).below c2 (by omega)).below c3 (by omega)
  have s1' := (s1.below c2 (by omega)).below c3 (by omega)
  have s2' := s2.below c3 (by omega)
  exact ⟨s0'.c 0 _ rfl, s0'.c 1 _ rfl, s1'.c 0 _ rfl, s2'.c 0 _ rfl, s3.c 0 _ rfl, by simp [z3]; first | done | omega, by simp [z3]; first | done | omega, by simp [z3]; first | done | omega, by simp [z3]⟩

def NearRes (q : Nat) (v : List Int) (x y pad : Int) (w : World) (e : Ending) (w' : World) : Prop := e = .returned (.tuple #[ptV (nearS q v x y pad).1, .bool (nearS q v x y pad).2]) ∧ Below w.heap.size w w'
theorem near_leaves {q n c : Nat} {h x y pad : Int} {A : Option Addr} {v : List Int} {w W : World} {ds : List Deferred} {tmps : Array Value} {t : Pt} {b : Bool} (hm : Marks w.heap.size W ds) (hN : NearAt W w.heap.size q n c h A v t b)
    (ht : nearS q v x y pad = (t, b)) (hb : Below w.heap.size w W) (h8 : tmps[8]?.getD undef = .pointer (some ⟨w.heap.size + 1, 0, none⟩)) (h9 : tmps[9]?.getD undef = .pointer (some ⟨w.heap.size + 1 + 1, 0, none⟩)) :
    bodyPostM Fence.wide 6 Try.prog Try.f20 (NearRes q v x y pad w) .ret ⟨tmps, ds⟩ W := by
  have a0 := hN.a.c 0 _ rfl
  have a1 := hN.a.c 1 _ rfl
  have f0 := hN.fd.c 0 _ rfl
  show LeavesInM _ _ _ _ _ _ _ _ _
  refine leaves_marks (B := w.heap.size) ds W hm fun w' hb' hc => ?_
  have c0 := hc _ _ a0
  have c1 := hc _ _ a1
  have c2 := hc _ _ f0
  refine ⟨.tuple #[ptV t, .bool b], ?_, by rw [ht], hb.trans hb'⟩
  simp [results, Try.results20, go_sem, h8, h9, c0, c1, c2, ptV]

set_option maxRecDepth 100000 in
set_option maxHeartbeats 1600000 in
theorem near_walk (q n c : Nat) (h x y pad : Int) (A : Option Addr) (v : List Int) (w : World) (hI : Ints w w.heap.size A n v) (P : Pict q v h) (hx0 : 0 ≤ x) (hx1 : x < q) (hy0 : 0 ≤ y) (hy1 : y < h) (hp0 : 0 ≤ pad) (hp1 : pad ≤ 8) :
    Calls Try.prog 20 #[picV q h A n c, .int .i64 x, .int .i64 y, .int .i64 pad] w (NearRes q v x y pad w) := by
  unfold picV
  refine (callsIn_wide (n := 6)).1 ?_
  refine callsIn_of_wp_marks Try.func20 rfl trivial ?_ rfl
  simp only [Try.ntmps20, List.size_toArray, List.length_cons, List.length_nil, Nat.reduceAdd, Nat.reduceSub, Array.replicate_succ, Array.replicate_zero, List.push_toArray, List.append_toArray, List.nil_append, List.cons_append]
  gi_wp2
  refine wpIn_scope_wide ?_
  gi_wp2
  refine wpIn_label ?_
  gi_wp2
  have hN0 := NearAt.new w q n c h A v hI 41 24 4 48
  have hB0 : Below w.heap.size w ((((w.alloc (.cells #[.int .i64 q, .int .i64 h, .slice A n c] 41)).alloc (.cells #[.int .i64 0, .int .i64 0] 24)).alloc (.cells #[.bool false] 4)).alloc (.cells #[.func (.func 26) #[] #[.pointer (some ⟨w.heap.size, 0, none⟩)]] 48)) := ((((Below.refl _ _).alloc (Nat.le_refl _) _).alloc (by simp) _).alloc (by simp; omega) _).alloc (by simp; omega) _
  refine wpIn_loop_mixD [(11, 12), (16, 29)] (fun f ds wr => ∃ k : Nat, (k : Int) ≤ pad + 1 ∧ f 16 = .int .i64 k ∧ Marks w.heap.size wr ds ∧ NearAt wr w.heap.size q n c h A v ⟨0, 0⟩ false ∧ (∀ f : Int, 0 ≤ f → f < k → ∀ t ∈ ringL x y f q h, hasS q v t = false) ∧ Below w.heap.size w wr) (fun f => (pad + 1 - intOf (f 16)).toNat) ⟨0, by omega, rfl, trivial, hN0, fun f h1 h2 => by omega, hB0⟩ ?_
  rintro f ds wr ⟨k, hk, h16, hM, hN, hno, hbw⟩ K hK
  simp (config := { decide := true }) only [mix_in, mix_out, mix_nil, Nat.reduceAdd]
  rw [h16] at hK ⊢
  clear h16 hN0 hB0
  by_cases hlt : (k : Int) < pad + 1
  · have t0 : decide ((k : Int) < pad + 1) = true := decide_eq_true hlt
    have HM := Lib.hid hM; clear hM
    have HNO := Lib.hid hno; clear hno
    obtain ⟨⟨q0, q1, q2, qi⟩, na, nf, nh, nz⟩ := id hN
    have HN := Lib.hid hN; clear hN
    gi_wp2
    refine ⟨trivial, (callsIn_wide.2 (ring_any q n c h x y k A wr)).mono ?_⟩
    rintro e w' ⟨rfl, rfl⟩
    gi_wp2
    have hB1 : Below wr.heap.size wr ((((wr.alloc (.cells #[.int .i64 q, .int .i64 h, .slice A n c] 41)).alloc (.cells #[.int .i64 x] 3)).alloc (.cells #[.int .i64 y] 3)).alloc (.cells #[.int .i64 k] 3)) := ((((Below.refl _ _).alloc (Nat.le_refl _) _).alloc (by simp) _).alloc (by simp; omega) _).alloc (by simp; omega) _
    have hRG := RingAt.new wr q n c h x y k A 41 3 3 3
    have hsz : ((((wr.alloc (.cells #[.int .i64 q, .int .i64 h, .slice A n c] 41)).alloc (.cells #[.int .i64 x] 3)).alloc (.cells #[.int .i64 y] 3)).alloc (.cells #[.int .i64 k] 3)).heap.size = wr.heap.size + 4 := by simp
    obtain ⟨W0, hW0⟩ : ∃ W0, (((wr.alloc (.cells #[.int .i64 q, .int .i64 h, .slice A n c] 41)).alloc (.cells #[.int .i64 x] 3)).alloc (.cells #[.int .i64 y] 3)).alloc (.cells #[.int .i64 k] 3) = W0 := ⟨_, rfl⟩
    rw [hW0] at hB1 hRG hsz ⊢
    clear hW0
    have HN1 := Lib.hid (HN.out.below hB1 nz)
    have HM1 := Lib.hid (HM.out.below hB1 (Nat.le_refl _))
    have hbw0 : Below w.heap.size w W0 := hbw.trans (hB1.mono hbw.size)
    have hz0 : w.heap.size + 4 ≤ W0.heap.size := by omega
    have HSEQ := Lib.hid (ring_stops Fence.wide 5 trivial rfl (by omega) wr.heap.size (wr.heap.size + 1) (wr.heap.size + 1 + 1) (wr.heap.size + 1 + 1 + 1) q n c h x y k A P.w2 P.h2 hx0 hx1 hy0 hy1 (by omega) (by omega) W0 hRG)
    clear hRG q0 q1 q2 na nf nh hB1
    refine wpIn_rangeFunc_ownH (F := Fence.wide) rfl (show 1 ≤ 6 by omega) (gf := 35) (lb := #[.pointer (some ⟨wr.heap.size + 1 + 1, 0, none⟩), .pointer (some ⟨wr.heap.size + 1 + 1 + 1, 0, none⟩), .pointer (some ⟨wr.heap.size, 0, none⟩), .pointer (some ⟨wr.heap.size + 1, 0, none⟩)]) rfl trivial (enters_of Try.func35 (by kernel_rfl) rfl)
      HSEQ.out belowK_t (belowK_b (Nat.le_refl _)) (Below.refl _ _) (fun _ => rfl)
      (fun pre W => (∀ t ∈ vals pre, hasS q v t = false) ∧ Below W0.heap.size W0 W)
      (fun c' pre W => c' = Code.exit 0 ∧ ∃ (al : List Pt) (t : Pt), vals pre = al ++ [t] ∧ (∀ a ∈ al, hasS q v a = false) ∧ hasS q v t = true ∧ Below W0.heap.size (foundB W0 w.heap.size t true) W)
      (OwnFrom.and (ownFrom_pure _ _) (ownFrom_below (Nat.le_refl _) (Nat.le_refl _)))
      (fun c' s X Y row hs hg hr => by
        obtain ⟨e, al, t, h1, h2, h3, h4⟩ := hs
        exact ⟨e, al, t, h1, h2, h3, ownFrom_below (β := Unit) (w₀ := foundB W0 w.heap.size t true) (B := W0.heap.size) (by simp [foundB]) (Nat.le_refl _) () X Y row h4 hg hr⟩)
      ⟨fun t ht => by simp [vals] at ht, Below.refl _ _⟩
      (fun t a' W => ∃ Bx, W0.heap.size ≤ Bx ∧ W.heap[Bx]? = some (.cells #[.int .i64 t.1.x, .int .i64 t.1.y] 24 (0, 0)) ∧ a' = { tmps := #[.agg #[.int .i64 q, .int .i64 h, .slice A n c], .int .i64 x, .int .i64 y, .int .i64 pad, .pointer (some ⟨w.heap.size, 0, none⟩), undef, undef, undef, .pointer (some ⟨w.heap.size + 1, 0, none⟩), .pointer (some ⟨w.heap.size + 1 + 1, 0, none⟩), .pointer (some ⟨w.heap.size + 1 + 1 + 1, 0, none⟩), .int .i64 k, .pointer (some ⟨Bx, 0, none⟩),
        .func (.func 26) #[] #[.pointer (some ⟨w.heap.size, 0, none⟩)], .int .i64 pad, .int .i64 (pad + 1), .int .i64 k, .bool true, .int .i64 k, .agg #[.int .i64 q, .int .i64 h, .slice A n c], .int .i64 x, .int .i64 y, .int .i64 k, .func (.func 35) #[] #[.pointer (some ⟨wr.heap.size + 1 + 1, 0, none⟩), .pointer (some ⟨wr.heap.size + 1 + 1 + 1, 0, none⟩), .pointer (some ⟨wr.heap.size, 0, none⟩), .pointer (some ⟨wr.heap.size + 1, 0, none⟩)], .agg #[.int .i64 t.1.x, .int .i64 t.1.y], f 25, f 26, f 27, f 28, f 29, undef, undef], defers := [] })
      (fun t a' _ X Y row hs hg hr => by
        obtain ⟨Bx, h1, h2, h3⟩ := hs
        refine ⟨Bx, h1, ?_, h3⟩
        rw [hg.block Bx (Array.getElem?_eq_some_iff.1 h2).1 (fun e => by obtain ⟨_, o, ho, hc⟩ := hr Bx e.symm; rw [h2] at ho; cases ho; cases hc)]
        exact h2)
      ?assign ?body ?done ?stop
    case assign =>
      rintro l pre t W K' ⟨hno', hbW⟩ hK'
      dsimp only [ptV]
      gi_wp2
      exact hK' _ _ ((KeepsOthers.alloc _ _).from _) ((Below.refl _ W).alloc hbW.size _) ⟨hno', hbW.alloc hbW.size _⟩ ⟨W.heap.size, hbW.size, heap_alloc_new W _, rfl⟩
    case body =>
      rintro l pre t a' W hl hr ⟨hno', hbW⟩ ⟨Bx, hBx, hX, rfl⟩ hlen
      have hN2 := HN1.out.below hbW (by omega)
      have HASV := Lib.hid (has_any w.heap.size w.heap.size q n c h A v t.1 W hN2.p P (by have := hN2.z; omega) (by have := hN2.z; omega) t.2.1 t.2.2.1 t.2.2.2.1 t.2.2.2.2)
      have cX : SlotN W Bx [.int .i64 t.1.x, .int .i64 t.1.y] := ⟨fun j u hj => by rw [cell_of_row _ _ _ _ _ _ hX]; simpa using hj, fun j => frozen_of_row _ _ _ _ _ hX⟩
      have x0 := cX.c 0 _ rfl
      have x1 := cX.c 1 _ rfl
      have hBxW : Bx < W.heap.size := (Array.getElem?_eq_some_iff.1 hX).1
      clear hX
      obtain ⟨_, na, nf, nh, nz'⟩ := hN2
      unfold ptV at HASV
      gi_wp2
      refine ⟨trivial, CallsIn.inRound l ((callsIn_wide.2 HASV.out).mono ?_)⟩
      clear HASV
      rintro e w2 ⟨rfl, rfl⟩
      have hbA : Below W.heap.size W (W.alloc (.cells #[.int .i64 t.1.x, .int .i64 t.1.y] 24)) := (Below.refl _ _).alloc (Nat.le_refl _) _
      cases hh : hasS q v t.1 with
      | false =>
        have HH := Lib.hid hh; clear hh
        gi_wp2
        refine ⟨(KeepsOthers.alloc _ _).from _, (Below.refl _ W).alloc hbW.size _, fun a ha => ?_, hbW.alloc hbW.size _⟩
        rw [vals_snoc] at ha
        rcases List.mem_append.1 ha with ha | ha
        · exact hno' a ha
        · simp only [List.mem_singleton] at ha; subst ha; exact HH.out
      | true =>
        have HH := Lib.hid hh; clear hh
        have na2 := na.below hbA (by omega)
        have nf2 := nf.below hbA (by omega)
        have cX2 := cX.below hbA hBxW
        have a0 := na2.c 0 _ rfl
        have a1 := na2.c 1 _ rfl
        have a2 := na2.f 0
        have a3 := na2.f 1
        have f0 := nf2.c 0 _ rfl
        have f1 := nf2.f 0
        have y0 := cX2.c 0 _ rfl
        have y1 := cX2.c 1 _ rfl
        have HFB := Lib.hid (foundW_below (hbW.alloc hbW.size (.cells #[.int .i64 t.1.x, .int .i64 t.1.y] 24)) w.heap.size t.1 true hz0)
        clear na nf na2 nf2 cX cX2 hbA x0 x1
        gi_wp2
        refine ⟨((KeepsOthers.alloc _ _).trans (foundW_keeps _ w.heap.size t.1 true)).from _, rfl, vals pre, t.1, vals_snoc _ _, hno', HH.out, HFB.out⟩
    case done =>
      rintro D ys W hD hS ⟨hno', hbW⟩ hKD
      gi_wp2
      refine MixEndD.intro (by kernel_rfl) ⟨k + 1, by omega, (by show Value.int .i64 ((k : Int) + 1) = _; go_num), ⟨D, rfl, by omega, hKD, fun d' hd' => ?_, HM1.out.below hbW (Nat.le_refl _)⟩, HN1.out.below hbW (by omega), fun f' h1 h2 t ht => ?_, hbw0.trans (hbW.mono (by omega))⟩ ?_
      · obtain ⟨D', e, hlt'⟩ := HM1.out.lt d' hd'
        exact ⟨D', e, by omega⟩
      · rcases Int.lt_or_le f' k with h3 | h3
        · exact HNO.out f' h1 h3 t ht
        · have : f' = k := by omega
          subst this
          rw [← hS] at ht
          exact hno' t ht
      · show (pad + 1 - ((k : Int) + 1)).toNat < (pad + 1 - (k : Int)).toNat
        omega
    case stop =>
      rintro D c' pre W hD hS ⟨rfl, al, t, h1, h2, h3, h4⟩ hKD
      have hN3 := (HN1.out.found t true).below h4 (by omega)
      have hN3' := hN3
      have hM3 := Lib.hid (((HM1.out.found HN1.out t true).below h4 (by simp [foundB])))
      obtain ⟨_, na, nf, _, nz3⟩ := hN3
      have a0 := na.c 0 _ rfl
      have a1 := na.c 1 _ rfl
      have a2 := na.f 0
      have a3 := na.f 1
      have f0 := nf.c 0 _ rfl
      have f1 := nf.f 0
      have HNF : Hid (nearS q v x y pad = (t, true)) := Lib.hid (by
        obtain ⟨bs, hbs⟩ := hS
        rw [h1, List.append_assoc] at hbs
        exact near_found P hp1 hx0 hx1 hy0 hy1 (by omega) (by omega) HNO.out hbs.symm h2 h3)
      have HBF : Hid (Below w.heap.size w W) := Lib.hid ((hbw0.trans (((((Below.refl _ _).setCell (p := ⟨w.heap.size + 1, 0, none⟩) (by simp) _).setCell (p := ⟨w.heap.size + 1, 1, none⟩) (by simp) _).setCell (p := ⟨w.heap.size + 1 + 1, 0, none⟩) (by simp; omega) _) : Below w.heap.size W0 (foundB W0 w.heap.size t true))).trans (h4.mono (by omega)))
      clear h1 h2 h3 h4 hS
      gi_wp2
      gi_region
      gi_wp2
      rw [Exit.noGoto_ret]
      have hN4 := hN3'.found t true
      have hK4 := (foundW_keeps W w.heap.size t true).same D _ hKD rfl
      have hM4 := (hM3.out.found hN3' t true)
      exact near_leaves (W := (foundB W w.heap.size t true).drew) (t := t) (b := true) ⟨D, rfl, by omega, hK4, fun d' hd' => by obtain ⟨D', e, hlt'⟩ := HM1.out.lt d' hd'; exact ⟨D', e, by omega⟩, hM4.drew⟩
        (hN4.below (D := (foundB W w.heap.size t true).heap.size) (Below.refl _ _).drew hN4.z) HNF.out (HBF.out.trans ((((Below.refl _ _).setCell (p := ⟨w.heap.size + 1, 0, none⟩) (by simp) _).setCell (p := ⟨w.heap.size + 1, 1, none⟩) (by simp) _).setCell (p := ⟨w.heap.size + 1 + 1, 0, none⟩) (by simp; omega) _).drew) rfl rfl
  · have t0 : decide ((k : Int) < pad + 1) = false := decide_eq_false hlt
    have HM := Lib.hid hM; clear hM
    have HNF : Hid (nearS q v x y pad = (⟨0, 0⟩, false)) := Lib.hid (near_none P hp1 hx0 hx1 hy0 hy1 (fun f h1 h2 t ht => hno f h1 (by omega) t ht))
    clear hno
    have HN := Lib.hid hN
    obtain ⟨_, na, nf, _, nz3⟩ := hN
    have a0 := na.c 0 _ rfl
    have a1 := na.c 1 _ rfl
    have a2 := na.f 0
    have a3 := na.f 1
    have f0 := nf.c 0 _ rfl
    have f1 := nf.f 0
    gi_wp2
    gi_region
    gi_wp2
    rw [Exit.noGoto_ret]
    have hN4 := HN.out.found ⟨0, 0⟩ false
    exact near_leaves (W := (foundB wr w.heap.size ⟨0, 0⟩ false).drew) (t := ⟨0, 0⟩) (b := false) (HM.out.found HN.out ⟨0, 0⟩ false).drew
      (hN4.below (D := (foundB wr w.heap.size ⟨0, 0⟩ false).heap.size) (Below.refl _ _).drew hN4.z) HNF.out (hbw.trans ((((Below.refl _ _).setCell (p := ⟨w.heap.size + 1, 0, none⟩) (by simp) _).setCell (p := ⟨w.heap.size + 1, 1, none⟩) (by simp) _).setCell (p := ⟨w.heap.size + 1 + 1, 0, none⟩) (by simp; omega) _).drew) rfl rfl
end Go.Proofs.Ytmkmmkpigpbkiaa
