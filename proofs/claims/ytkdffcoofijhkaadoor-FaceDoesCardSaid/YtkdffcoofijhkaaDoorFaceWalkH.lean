/-
  THE STEPS OF face.Face.
-/
import Derived.Test.YtkdffcoofijhkaaDoorFaceWalkE
import Derived.Test.YtkdffcoofijhkaaDoorFaceWalkG
set_option linter.unusedVariables false
set_option linter.unusedSimpArgs false
set_option maxRecDepth 8000
namespace Go.Proofs.YtkdffcoofijhkaaDoor
open Go.RowKit

/-- the corners of texts: the first error, or all -/
def corsR (m : P3) : List (List UInt8) → List P3 × Int
  | [] => ([], 0)
  | l :: r => if (cornerR l m).2 = 0 then (if (corsR m r).2 = 0 then ((cornerR l m).1 :: (corsR m r).1, 0) else ([], (corsR m r).2)) else ([], (cornerR l m).2)
theorem corsR_ok (m : P3) : ∀ ls : List (List UInt8), (∀ l ∈ ls, (cornerR l m).2 = 0) → corsR m ls = (ls.map fun l => (cornerR l m).1, 0)
  | [], _ => rfl
  | l :: r, h => by
    have h1 := corsR_ok m r (fun x hx => h x (List.mem_cons_of_mem _ hx))
    unfold corsR
    rw [if_pos (h l List.mem_cons_self), h1]
    rfl
theorem corsR_err (m : P3) : ∀ (a : List (List UInt8)) (l : List UInt8) (r : List (List UInt8)), (∀ x ∈ a, (cornerR x m).2 = 0) → (cornerR l m).2 ≠ 0 → corsR m (a ++ l :: r) = ([], (cornerR l m).2)
  | [], l, r, _, h => by simp only [List.nil_append, corsR, if_neg h]
  | x :: a, l, r, ha, h => by
    have h1 := corsR_err m a l r (fun y hy => ha y (List.mem_cons_of_mem _ hy)) h
    simp only [List.cons_append, corsR, if_pos (ha x List.mem_cons_self), h1, if_neg h]
def likeC (c x : P3) : Bool := (decide (x.b < 0) == decide (c.b < 0)) && (decide (x.c < 0) == decide (c.c < 0))
def alikeC (cs : List P3) : Bool := cs.all fun x => likeC (cs.headD ⟨0, 0, 0⟩) x
theorem alike_snoc (cs : List P3) (x : P3) : alikeC (cs ++ [x]) = (alikeC cs && likeC ((cs ++ [x]).headD ⟨0, 0, 0⟩) x) := by
  unfold alikeC
  cases cs with
  | nil => simp
  | cons a r => simp [List.all_append, Bool.and_assoc]
def faceR (m : P3) (ls : List (List UInt8)) : List T3 × Int :=
  if ls.length < 3 then ([], 6) else if (corsR m ls).2 ≠ 0 then ([], (corsR m ls).2) else if alikeC (corsR m ls).1 then (fanS (corsR m ls).1, 0) else ([], 6)
/-- triangles and an error's number are handed back -/
def FaceRes (r : List T3 × Int) (w : World) : Ending → World → Prop := ListRes w 27 9 r.1.length (cellsT r.1) r.2
theorem FaceRes.bad {z : Int} {w w' : World} (hb : Below w.heap.size w w') : FaceRes ([], z) w (.returned (.tuple #[.slice none 0 0, .int .i64 z])) w' := ListRes.none_ rfl hb

theorem clear2 (g : Nat) (a : Value) (w : World) (h : SlotN w g [a]) : Calls Tryd.prog 39 #[.pointer (some ⟨g, 0, none⟩)] w fun e w' =>
    e = .returned (.tuple #[]) ∧ w' = w.setCell ⟨g, 0, none⟩ (.slice none 0 0) := by
  have d0 := h.c 0 _ rfl
  have f0 := h.f 0
  go_enter Tryd.func39, Tryd.ntmps39
  go_wp2_with fail
  go_end0
  exact ⟨rfl, rfl⟩
/-- Face's door, when an error is thrown -/
theorem face_door (w W : World) (z : Int) (tmps : Array Value) (h8 : tmps[8]?.getD undef = .pointer (some ⟨w.heap.size, 0, none⟩)) (h9 : tmps[9]?.getD undef = .pointer (some ⟨w.heap.size + 1, 0, none⟩)) (a : Value)
    (ho : SlotN W w.heap.size [a]) (he : SlotN W (w.heap.size + 1) [.int .i64 0]) (hb : Below w.heap.size w W) :
    bodyPostD Tryd.prog Tryd.f16 (FaceRes ([], z) w) (.panic [{ v := .iface 32 (.int .i64 z), recovered := false }]) ⟨tmps, [{ target := Target.fn (.func 38) #[], args := #[.pointer (some ⟨w.heap.size + 1, 0, none⟩), .func (.func 39) #[] #[.pointer (some ⟨w.heap.size, 0, none⟩)]] }]⟩ W := by
  have hbE : Below (w.heap.size + 1) W (W.setCell ⟨w.heap.size + 1, 0, none⟩ (.int .i64 z)) := (Below.refl _ _).setCell (p := ⟨w.heap.size + 1, 0, none⟩) (Nat.le_refl _) _
  have hc3 := ho.below hbE (by omega)
  have d0 := hc3.c 0 _ rfl
  have d3 : (W.setCell ⟨w.heap.size + 1, 0, none⟩ (.int .i64 z)).cell? ⟨w.heap.size + 1, 0, none⟩ = some (.int .i64 z) := World.cell?_setCell_same' _ _ _ (by rw [he.c 0 _ rfl]; rfl)
  refine leaves_cons (f := 38) (args := #[.pointer (some ⟨w.heap.size + 1, 0, none⟩), .func (.func 39) #[] #[.pointer (some ⟨w.heap.size, 0, none⟩)]]) (by simp) (by simp [go_sem]) ?_
  refine (caught_f (w.heap.size + 1) w.heap.size z [] W _ (.int .i64 0) (he.c 0 _ rfl) (he.f 0) (clear2 w.heap.size _ _ hc3)).mono ?_
  rintro e u' w'' ⟨rfl, rfl, rfl⟩
  refine ⟨.tuple #[.slice none 0 0, .int .i64 z], ?_, FaceRes.bad ?_⟩
  · generalize W.setCell ⟨w.heap.size + 1, 0, none⟩ (.int .i64 z) = V at *
    simp [results, Tryd.results16, go_sem, d0, d3, h8, h9]
  · exact (hb.setCell (p := ⟨w.heap.size + 1, 0, none⟩) (by simp) _).setCell (p := ⟨w.heap.size, 0, none⟩) (by simp) _

set_option maxHeartbeats 3200000 in
theorem face_few (B : Nat) (A : Option Addr) (n c : Nat) (m : P3) (ls : List (List UInt8)) (w : World) (h : Strs w B A n ls) (hn : n < 3) :
    Calls Tryd.prog 16 #[.int .i64 m.a, .int .i64 m.b, .int .i64 m.c, .slice A n c] w (FaceRes (faceR m ls) w) := by
  have e0 : faceR m ls = ([], 6) := by unfold faceR; rw [if_pos (by rw [h.length]; exact hn)]
  rw [e0]
  clear e0 h
  obtain ⟨m0, m1, m2⟩ := m
  simp only
  have hmf := makes_func
  have t0 : decide ((n : Int) < 3) = true := decide_eq_true (by omega)
  have hc0 := SlotN.new w [.slice none 0 0] #[.slice none 0 0] 23 rfl
  have he0 := SlotN.new (w.alloc (.cells #[.slice none 0 0] 23)) [.int .i64 0] #[.int .i64 0] 32 rfl
  have hb1 : Below (w.heap.size + 1) (w.alloc (.cells #[.slice none 0 0] 23)) ((w.alloc (.cells #[.slice none 0 0] 23)).alloc (.cells #[.int .i64 0] 32)) := (Below.refl _ _).alloc (by simp) _
  have hc1 := hc0.below hb1 (by omega)
  rw [World.size_alloc] at he0
  have hb0 : Below w.heap.size w ((w.alloc (.cells #[.slice none 0 0] 23)).alloc (.cells #[.int .i64 0] 32)) := ((Below.refl _ _).alloc (Nat.le_refl _) _).alloc (by simp) _
  clear hc0 hb1
  go_enter_defers Tryd.func16, Tryd.ntmps16
  go_wp2_with fail
  generalize (w.alloc (.cells #[.slice none 0 0] 23)).alloc (.cells #[.int .i64 0] 32) = W0 at hb0 hc1 he0 ⊢
  exact face_door w W0 6 _ rfl rfl _ hc1 he0 hb0

theorem own_set {w : World} {base g : Nat} {e : TypeId} {size : Nat} {v : Value} {n : Nat} {xs : List Value} (h : w.ownsRow base e size v n xs) (hb : g < base) (j : Nat) (u : Value) : (w.setCell ⟨g, j, none⟩ u).ownsRow base e size v n xs :=
  own_kept h ⟨rfl, rfl, rfl, by simp, fun k _ hk => heap_setCell_other _ _ _ _ (fun e => hk (by rw [e]))⟩ hb
set_option maxHeartbeats 12800000 in
theorem face_main (B : Nat) (A : Option Addr) (n c : Nat) (m : P3) (ls : List (List UInt8)) (w : World) (h : Strs w B A n ls) (hB : B ≤ w.heap.size) (hn : 3 ≤ n) (hn2 : n ≤ 1000) (hl : ∀ l ∈ ls, l.length ≤ 100000) (hm : m.bd) (hE : Env w) :
    Calls Tryd.prog 16 #[.int .i64 m.a, .int .i64 m.b, .int .i64 m.c, .slice A n c] w (FaceRes (faceR m ls) w) := by
  obtain ⟨i0, hi0, hz0, hz1, hz2⟩ := info_parts size_cor
  have hlen := Lib.hid h.length
  have H := Lib.hid h; clear h
  have HE := Lib.hid hE; clear hE
  have HL := Lib.hid hl; clear hl
  have HRD := Lib.hid (fun l W (h1 : l.length ≤ 100000) (h2 : Env W) => read_any l m W h1 h2 hm)
  have e0 : faceR m ls = if (corsR m ls).2 ≠ 0 then ([], (corsR m ls).2) else if alikeC (corsR m ls).1 then (fanS (corsR m ls).1, 0) else ([], 6) := by unfold faceR; rw [if_neg (by rw [hlen.out]; omega)]
  obtain ⟨R, hR⟩ : ∃ R, R = faceR m ls := ⟨_, rfl⟩
  rw [← hR] at e0 ⊢
  have HR := Lib.hid e0; clear e0 hR
  obtain ⟨f, hf⟩ : ∃ f : List UInt8 → P3 × Int, f = fun l => cornerR l m := ⟨_, rfl⟩
  have HF := Lib.hid hf; clear hf hm
  obtain ⟨m0, m1, m2⟩ := m
  unfold p3V at HRD
  simp only
  have hmf := makes_func
  have t0 : decide ((n : Int) < 3) = false := decide_eq_false (by omega)
  have hc0 := SlotN.new w [.slice none 0 0] #[.slice none 0 0] 23 rfl
  have he0 := SlotN.new (w.alloc (.cells #[.slice none 0 0] 23)) [.int .i64 0] #[.int .i64 0] 32 rfl
  have hb1 : Below (w.heap.size + 1) (w.alloc (.cells #[.slice none 0 0] 23)) ((w.alloc (.cells #[.slice none 0 0] 23)).alloc (.cells #[.int .i64 0] 32)) := (Below.refl _ _).alloc (by simp) _
  have hc1 := hc0.below hb1 (by omega)
  rw [World.size_alloc] at he0
  have hb0 : Below w.heap.size w ((w.alloc (.cells #[.slice none 0 0] 23)).alloc (.cells #[.int .i64 0] 32)) := ((Below.refl _ _).alloc (Nat.le_refl _) _).alloc (by simp) _
  have hz3 : ((w.alloc (.cells #[.slice none 0 0] 23)).alloc (.cells #[.int .i64 0] 32)).heap.size = w.heap.size + 2 := by simp
  clear hc0 hb1
  go_enter_defers Tryd.func16, Tryd.ntmps16
  go_wp2_with fail
  generalize (w.alloc (.cells #[.slice none 0 0] 23)).alloc (.cells #[.int .i64 0] 32) = W0 at hb0 hc1 he0 hz3 ⊢
  have HO := Lib.hid hc1; have HEE := Lib.hid he0; have HB := Lib.hid hb0
  have hzz : w.heap.size + 2 ≤ W0.heap.size := by omega
  clear hc1 he0 hb0 hz3
  go_loopw [10, 11, 22] (fun v b i wr => ∃ (k : Nat) (cs : List P3) (b' : Bool), k ≤ n ∧ i = .int .i64 k ∧ b = .bool b' ∧ wr.ownsRow (w.heap.size + 2) 26 3 v k (cellsC cs) ∧ Hid (cs = (ls.take k).map fun l => (f l).1) ∧ Hid (∀ l ∈ ls.take k, (f l).2 = 0) ∧ Hid (b' = alikeC cs) ∧
      Hid (SlotN wr w.heap.size [.slice none 0 0]) ∧ Hid (SlotN wr (w.heap.size + 1) [.int .i64 0]) ∧ Hid (Below w.heap.size w wr) ∧ w.heap.size + 2 ≤ wr.heap.size) (fun _ _ i _ => n - (intOf i).toNat)
  case atStart => exact ⟨0, [], true, by omega, rfl, rfl, World.ownsRow_nil _ _ _ _, Lib.hid rfl, Lib.hid (by simp), Lib.hid rfl, HO, HEE, HB, hzz⟩
  case round =>
    clear HO HEE HB hzz
    obtain ⟨k, cs, b, hk, rfl, rfl, hown, hcs, hall, hbb, HO, HEE, HB, hzz⟩ := hrel
    by_cases hlt : k < n
    · have t1 : decide ((k : Int) < (n : Int)) = true := decide_eq_true (by omega)
      obtain ⟨ad, l, rfl, hbk, hx, hmx, hc⟩ := (H.out.below HB.out hB).get hlt
      have HX := Lib.hid hx
      have hll := HL.out l hmx
      obtain ⟨⟨x0, x1, x2⟩, er, hfl⟩ : ∃ x e, f l = (x, e) := ⟨_, _, rfl⟩
      have hfl2 : cornerR l ⟨m0, m1, m2⟩ = (⟨x0, x1, x2⟩, er) := by have := HF.out; rw [this] at hfl; exact hfl
      have K := Lib.hid (fun W hW => HRD.out l W hll hW)
      rw [hfl2] at K
      have HFL := Lib.hid hfl
      unfold ReadRes p3V Thrown at K
      simp only at K
      clear hx hmx hfl hfl2 hll
      go_wp2_with fail
      refine (K.out _ (HE.out.on HB.out)).mono ?_
      clear K hc
      rintro e w1 ⟨rfl, hb1⟩
      have HB1 := Lib.hid (HB.out.trans (hb1.mono HB.out.size))
      have HO1 := Lib.hid (HO.out.below hb1 (by omega))
      have HE1 := Lib.hid (HEE.out.below hb1 (by omega))
      have hown1 := own_below hown hb1 (Nat.le_refl _)
      have hy1 := hb1.size
      have hlo : ∀ j, u10.ownBlock = some j → w.heap.size + 2 ≤ j ∧ j < wr.heap.size := fun j hj => hown.lt j hj
      clear hb1 hown
      by_cases he : er = 0
      · subst he
        simp only [if_true]
        have hb2 : Below w1.heap.size w1 ((w1.alloc (.cells #[.int .i64 x0, .int .i64 x1, .int .i64 x2] 26)).alloc (.cells #[.int .i64 x0, .int .i64 x1, .int .i64 x2] 26)) := ((Below.refl _ _).alloc (Nat.le_refl _) _).alloc (by simp) _
        have hsx := SlotN.new w1 [.int .i64 x0, .int .i64 x1, .int .i64 x2] #[.int .i64 x0, .int .i64 x1, .int .i64 x2] 26 rfl
        have hsx2 := hsx.below (B := w1.heap.size + 1) (w' := (w1.alloc (.cells #[.int .i64 x0, .int .i64 x1, .int .i64 x2] 26)).alloc (.cells #[.int .i64 x0, .int .i64 x1, .int .i64 x2] 26)) ((Below.refl _ _).alloc (by simp) _) (by omega)
        have HSX := Lib.hid hsx2
        clear hsx hsx2
        go_wp2_with (at_builtin; refine wpList_append_lies _ rfl (.tmp 32) (.tmp 34) _ rfl (w.heap.size + 2) 26 i0 _ 3 24 Tryd.underlying22 hi0 hz0 hz1 hz2 rfl (by decide) _ k (cellsC cs) rfl ((hown1.alloc _).alloc _) ⟨w1.heap.size + 1, 0, none⟩ 1 1 [.int .i64 x0, .int .i64 x1, .int .i64 x2] rfl rfl (World.news_of_block (by have := heap_alloc_new (w1.alloc (.cells #[.int .i64 x0, .int .i64 x1, .int .i64 x2] 26)) (.cells #[.int .i64 x0, .int .i64 x1, .int .i64 x2] 26); rw [World.size_alloc] at this; exact this)) (by simp [Value.oneCell']) (by decide) (by unfold maxLen; omega) (by omega) (by simp; omega) _ rfl ?_; intro g4 cap4 w4 hown4 hgr4 hat4 hlt4)
        have hcx : ∀ j u, [Value.int .i64 x0, .int .i64 x1, .int .i64 x2][j]? = some u → w4.cell? ⟨w1.heap.size, j, none⟩ = some u := fun j u hj => by
          refine (hgr4.cell_far _ (by simp; omega) ?_).trans (HSX.out.c j u hj)
          intro e
          have := hlo _ e.symm
          simp only at this
          omega
        have cx1 := hcx 1 _ rfl
        have cx2 := hcx 2 _ rfl
        have hown5 : w4.ownsRow (w.heap.size + 2) 26 3 (.slice (some ⟨g4, 0, none⟩) (k + 1) cap4) (k + 1) (cellsC (cs ++ [⟨x0, x1, x2⟩])) := by
          have : cellsC (cs ++ [⟨x0, x1, x2⟩]) = cellsC cs ++ [.int .i64 x0, .int .i64 x1, .int .i64 x2] := by simp [cellsC, cells3]
          rw [this]; exact hown4
        obtain ⟨⟨y0, y1, y2⟩, hy⟩ : ∃ y : P3, (cs ++ [(⟨x0, x1, x2⟩ : P3)]).headD ⟨0, 0, 0⟩ = y := ⟨_, rfl⟩
        have hyc : ∀ j u, [Value.int .i64 y0, .int .i64 y1, .int .i64 y2][j]? = some u → w4.cell? ⟨g4, j, none⟩ = some u := fun j u hj => by
          have := hown5.cells (g := g4) rfl j u (by
            cases hcs0 : cs ++ [(⟨x0, x1, x2⟩ : P3)] with
            | nil => simp at hcs0
            | cons a r =>
              rw [hcs0] at hy
              simp only [List.headD_cons] at hy
              subst hy
              unfold cellsC
              rw [List.flatMap_cons, List.getElem?_append_left (by have := (List.getElem?_eq_some_iff.1 hj).1; simpa [cells3] using this)]
              exact hj)
          rwa [addr_lit] at this
        have cy1 := hyc 1 _ rfl
        have cy2 := hyc 2 _ rfl
        have hal2 : Hid (alikeC (cs ++ [⟨x0, x1, x2⟩]) = (b && likeC ⟨y0, y1, y2⟩ ⟨x0, x1, x2⟩)) := Lib.hid (by rw [alike_snoc, hy, hbb.out])
        have hcs2 : Hid (cs ++ [⟨x0, x1, x2⟩] = (ls.take (k + 1)).map fun l => (f l).1) := Lib.hid (by rw [take_snoc' _ _ _ HX.out, hcs.out]; simp [HFL.out])
        have hall2 : Hid (∀ l ∈ ls.take (k + 1), (f l).2 = 0) := Lib.hid (by
          rw [take_snoc' _ _ _ HX.out]
          intro x hx
          rcases List.mem_append.1 hx with hx | hx
          · exact hall.out x hx
          · obtain rfl := List.mem_singleton.1 hx; rw [HFL.out])
        have hb4 : Below (w.heap.size + 2) w1 w4 := (((Below.refl _ w1).alloc (by omega) _).alloc (by simp; omega) _).grown hgr4 (by simp; omega) (fun j hj => (hlo j hj).1)
        have HO4 := Lib.hid (HO1.out.below hb4 (by omega))
        have HE4 := Lib.hid (HE1.out.below hb4 (by omega))
        have HB4 := Lib.hid (HB1.out.trans (hb4.mono (by omega)))
        have hz4 : w.heap.size + 2 ≤ w4.heap.size := by have := hb4.size; omega
        have HOW := Lib.hid hown5
        have k9 : 0 < k + 1 := by omega
        clear hcx hyc hown4 hown5 hgr4 hat4 hlt4 hy hown1 hcs hall hbb HSX hb2 hb4
        have FINR : Hid (∀ (b2 : Bool) (q : Nat), b2 = (b && likeC ⟨y0, y1, y2⟩ ⟨x0, x1, x2⟩) → ∃ (k' : Nat) (cs' : List P3) (b' : Bool), k' ≤ n ∧ Value.int .i64 ((k : Int) + 1) = .int .i64 k' ∧ Value.bool b2 = .bool b' ∧ (w4.drewN q).ownsRow (w.heap.size + 2) 26 3 (.slice (some ⟨g4, 0, none⟩) (k + 1) cap4) k' (cellsC cs') ∧ Hid (cs' = (ls.take k').map fun l => (f l).1) ∧ Hid (∀ l ∈ ls.take k', (f l).2 = 0) ∧ Hid (b' = alikeC cs') ∧
            Hid (SlotN (w4.drewN q) w.heap.size [.slice none 0 0]) ∧ Hid (SlotN (w4.drewN q) (w.heap.size + 1) [.int .i64 0]) ∧ Hid (Below w.heap.size w (w4.drewN q)) ∧ w.heap.size + 2 ≤ (w4.drewN q).heap.size) := Lib.hid fun b2 q e =>
          ⟨k + 1, cs ++ [⟨x0, x1, x2⟩], b2, by omega, by go_num, rfl, (show (w4.drewN q).ownsRow (w.heap.size + 2) 26 3 (.slice (some ⟨g4, 0, none⟩) (k + 1) cap4) (k + 1) (cellsC (cs ++ [(⟨x0, x1, x2⟩ : P3)])) from HOW.out), hcs2, hall2, Lib.hid (by rw [e, hal2.out]), Lib.hid (HO4.out.drewN q), Lib.hid (HE4.out.drewN q), Lib.hid (below_drewN HB4.out q), hz4⟩
        cases b with
        | false =>
          go_quiet (fail)
          go_wp2_with fail
          go_roundw
          case rel => exact FINR.out _ _ rfl
          case measure => simp only [intOf]; omega
        | true =>
          cases p1 : decide (x1 < 0) <;> cases q1 : decide (y1 < 0)
          all_goals
            cases p2 : decide (x2 < 0) <;> cases q2 : decide (y2 < 0)
            all_goals
              go_quiet (fail)
              go_wp2_with fail
              go_roundw
              case rel => exact FINR.out _ _ (by unfold likeC; simp only [*]; rfl)
              case measure => simp only [intOf]; omega
      · have herr : Hid (R = ([], er)) := Lib.hid (by
          have hf := HF.out
          have hc : corsR ⟨m0, m1, m2⟩ ls = ([], er) := by
            rw [split_at ls k l HX.out, corsR_err ⟨m0, m1, m2⟩ _ _ _ (by have := hall.out; rw [hf] at this; exact this) (by have := HFL.out; rw [hf] at this; simp only at this; rw [this]; exact he)]
            have := HFL.out; rw [hf] at this; simp only at this; rw [this]
          rw [HR.out, hc, if_pos he])
        rw [if_neg he]
        clear he
        go_wp2_with fail
        rw [herr.out]
        exact face_door w w1 er _ rfl rfl _ HO1.out HE1.out HB1.out
    · have t1 : decide ((k : Int) < (n : Int)) = false := decide_eq_false (by omega)
      obtain rfl : n = k := by omega
      obtain ⟨A', c', rfl⟩ := own_shape hown
      have htk : ls.take n = ls := List.take_of_length_le (by rw [hlen.out]; exact Nat.le_refl _)
      have hRR : Hid (R = if alikeC cs then (fanS cs, 0) else ([], 6)) := Lib.hid (by
        have h1 := hall.out
        have h2 := hcs.out
        have hf := HF.out
        rw [htk, hf] at h1 h2
        have := corsR_ok ⟨m0, m1, m2⟩ ls h1
        rw [HR.out, this, ← h2]
        rfl)
      cases b with
      | true =>
        have hfan : Hid (R = (fanS cs, 0)) := Lib.hid (by rw [hRR.out, ← hbb.out]; rfl)
        have hcl : cs.length = n := by have := hown.1; rw [cellsC_length] at this; omega
        have hCor : Cors wr wr.heap.size A' n cs := ⟨Rd.of_own hown, by omega⟩
        have K := Lib.hid (fan_any wr.heap.size A' n c' cs wr hCor (Nat.le_refl _) (by omega))
        unfold FanRes at K
        clear hown hCor hcl
        go_wp2_with fail
        refine K.out.mono ?_
        clear K
        rintro e w1 ⟨A2, c2, rfl, hown, hb1⟩
        have ho := HO.out.below hb1 (by omega)
        have he := HEE.out.below hb1 (by omega)
        have HB1 := Lib.hid (HB.out.trans (hb1.mono HB.out.size))
        have HOWN := Lib.hid hown
        clear hown hb1
        have d0 := ho.c 0 _ rfl
        have f0 := ho.f 0
        have d3 := he.c 0 _ rfl
        have f3 := he.f 0
        clear ho he
        go_wp2_with fail
        refine leaves_cons (f := 38) (args := #[.pointer (some ⟨w.heap.size + 1, 0, none⟩), .func (.func 39) #[] #[.pointer (some ⟨w.heap.size, 0, none⟩)]]) (by simp) (by simp [go_sem]) ?_
        refine (caught_idle _ _ _).mono ?_
        rintro e u' w'' ⟨rfl, rfl, rfl⟩
        refine ⟨.tuple #[.slice A2 (fanS cs).length c2, .int .i64 0], ?_, ?_⟩
        · simp [results, Tryd.results16, go_sem, d0, d3]
        · rw [hfan.out]
          refine ⟨A2, c2, rfl, own_mono (own_set (own_set HOWN.out (by omega) 0 _) (by omega) 0 _) (by omega), ?_⟩
          exact (HB1.out.setCell (p := ⟨w.heap.size, 0, none⟩) (by simp) _).setCell (p := ⟨w.heap.size + 1, 0, none⟩) (by simp) _
      | false =>
        have hbad : Hid (R = ([], 6)) := Lib.hid (by rw [hRR.out, ← hbb.out]; rfl)
        clear hown
        go_wp2_with fail
        rw [hbad.out]
        exact face_door w wr 6 _ rfl rfl _ HO.out HEE.out HB.out
theorem face_any (B : Nat) (A : Option Addr) (n c : Nat) (m : P3) (ls : List (List UInt8)) (w : World) (h : Strs w B A n ls) (hB : B ≤ w.heap.size) (hn2 : n ≤ 1000) (hl : ∀ l ∈ ls, l.length ≤ 100000) (hm : m.bd) (hE : Env w) :
    Calls Tryd.prog 16 #[.int .i64 m.a, .int .i64 m.b, .int .i64 m.c, .slice A n c] w (FaceRes (faceR m ls) w) := by
  by_cases h3 : n < 3
  · exact face_few B A n c m ls w h h3
  · exact face_main B A n c m ls w h hB (by omega) hn2 hl hm hE
end Go.Proofs.YtkdffcoofijhkaaDoor
