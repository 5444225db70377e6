/-
  THE STEPS OF tga's (reader).unpack.
-/
import Derived.Test.YtfkkppagbhllgaaTgaWalkE
set_option linter.unusedVariables false
set_option linter.unusedSimpArgs false
set_option maxRecDepth 8000
namespace Go.Proofs.Ytfkkppagbhllgaa
open Go.RowKit

/-- how much a reader has left -/
def leftW (w : World) (g : Nat) : Nat := match w.cell? ⟨g, 0, none⟩ with | some (.string b) => b.size | _ => 0
theorem leftW_is {w : World} {g : Nat} {t : List UInt8} (h : SlotN w g [strV t]) : leftW w g = t.length := by
  unfold leftW; rw [h.c 0 _ rfl]; simp [strV, ByteArray.size]
theorem repeat_eq (l : List UInt8) : ∀ c, Lib.repeatL l c = (List.replicate c l).flatten
  | 0 => rfl
  | c + 1 => by rw [Lib.repeatL, repeat_eq l c, List.replicate_succ, List.flatten_cons]
theorem repeat_any (l : List UInt8) (n : Int) (c : Nat) (w : World) (hn : n = (c : Int)) (hc : c ≤ 1000) (hl : l.length ≤ 1000) :
    Calls Try.prog 64 #[.string ⟨l.toArray⟩, .int .i64 n] w fun e w' => e = .returned (.string ⟨((List.replicate c l).flatten).toArray⟩) ∧ Below w.heap.size w w' := by
  subst hn
  have := Try.strings_Repeat ⟨l.toArray⟩ c w (by omega) (by
    have : l.length * c ≤ 1000 * 1000 := Nat.mul_le_mul hl hc
    simp [ByteArray.size]; omega)
  rw [← repeat_eq]
  exact this
theorem grown_below {w W W' : World} {g : Nat} (h : w.grownBy W (some g)) (hb : Below w.heap.size W W') : w.grownBy W' (some g) :=
  ⟨hb.os.trans h.os, hb.tape.trans h.tape, hb.output.trans h.output, Nat.le_trans h.size hb.size, fun k hk hne => (hb.block k hk).trans (h.block k hk hne)⟩
theorem grown_setCell {w W : World} {g : Nat} (h : w.grownBy W (some g)) (u : Value) : w.grownBy (W.setCell ⟨g, 0, none⟩ u) (some g) :=
  ⟨h.os, h.tape, h.output, by simpa using h.size, fun k hk hne => by rw [Below.heap_setCell _ _ _ _ (fun e => hne (by rw [e]))]; exact h.block k hk hne⟩
theorem SlotN.one {w : World} {g : Nat} {a : Value} (h : SlotN w g [a]) (a' : Value) : SlotN (w.setCell ⟨g, 0, none⟩ a') g [a'] := by
  have h0 := h.c 0 _ rfl
  refine ⟨fun j u hj => ?_, fun j => by rw [World.frozen?_setCell]; exact h.f j⟩
  cases j with
  | zero =>
    simp at hj; subst hj
    rw [World.cell?_setCell_same' _ _ _ (by rw [h0]; rfl)]
  | succ j => simp at hj
/-- a store into a block below another's keeps a builder -/
theorem Bld.store {w : World} {B b g : Nat} {l : List UInt8} (h : Bld w B b l) (hg : g < B) (u : Value) : Bld (w.setCell ⟨g, 0, none⟩ u) B b l := by
  have key : ∀ p, Lib.BuilderAtF 52 5 B b p (Lib.byteCells l) w → Lib.BuilderAtF 52 5 B b p (Lib.byteCells l) (w.setCell ⟨g, 0, none⟩ u) := by
    rintro p ⟨hB, v, hb, hown, hne⟩
    refine ⟨hB, v, ?_, hown.kept (row := some g) ⟨rfl, rfl, rfl, by simp, fun k hk hk2 => Below.heap_setCell _ _ _ _ (fun e => hk2 (by rw [e]))⟩ ?_, hne⟩
    · rw [Below.heap_setCell _ _ _ _ (fun e => by simp only at e; omega)]; exact hb
    · cases hv : v.ownBlock with
      | none => exact .inl rfl
      | some k =>
        refine .inr fun e => ?_
        injection e with e
        have := (hown.lt k hv).1
        omega
  exact h.elim (fun h => .inl (key _ h)) (fun h => .inr (key _ h))

theorem idx_one (c : UInt8) : ∀ W, Sem.run Try.prog (Instr.index 9 (.string ⟨#[c]⟩) (.int .i64 0)) W = .ok (.int .u8 (c.toNat : Int)) W := fun W => by kernel_rfl
/-- unpack's memory -/
structure UnAt (w W : World) (g : Nat) (acc t : List UInt8) : Prop where
  b : Bld W w.heap.size w.heap.size acc
  s : SlotN W g [strV t]
  grown : w.grownBy W (some g)
theorem UnAt.below {w W W' : World} {g : Nat} {acc t : List UInt8} (h : UnAt w W g acc t) (hg : g < w.heap.size) (hb : Below W.heap.size W W') : UnAt w W' g acc t :=
  ⟨h.b.grown hb, h.s.below hb (Nat.lt_of_lt_of_le hg h.grown.size), grown_below h.grown (hb.mono h.grown.size)⟩
theorem UnAt.wrote {w W W' : World} {g : Nat} {acc acc' t : List UInt8} (h : UnAt w W g acc t) (hg : g < w.heap.size) (hk : Wrote W W' w.heap.size w.heap.size acc') : UnAt w W' g acc' t :=
  ⟨hk.is, h.s.below hk.below hg, grown_below h.grown hk.below⟩
theorem UnAt.took {w W : World} {g : Nat} {acc t : List UInt8} (h : UnAt w W g acc t) (hg : g < w.heap.size) (t' : List UInt8) : UnAt w (W.setCell ⟨g, 0, none⟩ (strV t')) g acc t' :=
  ⟨h.b.store hg _, h.s.one _, grown_setCell h.grown _⟩
/-- what unpack hands back -/
def UnRes (g z need : Nat) (s : List UInt8) (w : World) (e : Ending) (w' : World) : Prop :=
  w.grownBy w' (some g) ∧ (∀ o, unpackT z need s = some o → e = .returned (strV o.1) ∧ SlotN w' g [strV o.2]) ∧ (unpackT z need s = none → e = Thrown 6)
/-- where the loop stands -/
def UnSt (z need : Nat) (s : List UInt8) (k : Nat) (t acc : List UInt8) : Prop :=
  (k ≤ need ∧ unpackT z need s = (unpackT z (need - k) t).map fun o => (acc ++ o.1, o.2)) ∨ (need < k ∧ unpackT z need s = none)
theorem UnSt.start (z need : Nat) (s : List UInt8) : UnSt z need s 0 s [] := .inl ⟨by omega, by cases unpackT z need s <;> simp⟩
theorem UnSt.empty {z need k : Nat} {s acc : List UInt8} (h : UnSt z need s k [] acc) (hk : k < need) : unpackT z need s = none := by
  rcases h with ⟨_, h⟩ | ⟨_, h⟩
  · rw [h, unpackT_nil (by omega)]; rfl
  · exact h
theorem UnSt.short {z need k : Nat} {s acc t : List UInt8} {c : UInt8} (h : UnSt z need s k (c :: t) acc) (hk : k < need) (hc : 128 ≤ c.toNat) (hl : t.length < z) : unpackT z need s = none := by
  rcases h with ⟨_, h⟩ | ⟨_, h⟩
  · rw [h, unpackT_cons _ _ _ _ (by omega)]
    by_cases h2 : need - k < c.toNat % 128 + 1
    · rw [if_pos h2]; rfl
    · rw [if_neg h2, if_pos hc, if_pos hl]; rfl
  · exact h
theorem UnSt.short2 {z need k : Nat} {s acc t : List UInt8} {c : UInt8} (h : UnSt z need s k (c :: t) acc) (hk : k < need) (hc : ¬ 128 ≤ c.toNat) (hl : t.length < (c.toNat % 128 + 1) * z) : unpackT z need s = none := by
  rcases h with ⟨_, h⟩ | ⟨_, h⟩
  · rw [h, unpackT_cons _ _ _ _ (by omega)]
    by_cases h2 : need - k < c.toNat % 128 + 1
    · rw [if_pos h2]; rfl
    · rw [if_neg h2, if_neg hc, if_pos hl]; rfl
  · exact h
theorem UnSt.run {z need k : Nat} {s acc t : List UInt8} {c : UInt8} (h : UnSt z need s k (c :: t) acc) (hk : k < need) (hc : 128 ≤ c.toNat) (hl : ¬ t.length < z) :
    UnSt z need s (k + (c.toNat % 128 + 1)) (t.drop z) (acc ++ (List.replicate (c.toNat % 128 + 1) (t.take z)).flatten) := by
  rcases h with ⟨h1, h⟩ | ⟨h1, h⟩
  · rw [unpackT_cons _ _ _ _ (by omega)] at h
    by_cases h2 : need - k < c.toNat % 128 + 1
    · rw [if_pos h2] at h
      exact .inr ⟨by omega, h⟩
    · rw [if_neg h2, if_pos hc, if_neg hl, Option.map_map] at h
      refine .inl ⟨by omega, ?_⟩
      rw [h, Nat.sub_sub]
      congr 1
      funext o
      simp
  · exact .inr ⟨by omega, h⟩
theorem UnSt.lit {z need k : Nat} {s acc t : List UInt8} {c : UInt8} (h : UnSt z need s k (c :: t) acc) (hk : k < need) (hc : ¬ 128 ≤ c.toNat) (hl : ¬ t.length < (c.toNat % 128 + 1) * z) :
    UnSt z need s (k + (c.toNat % 128 + 1)) (t.drop ((c.toNat % 128 + 1) * z)) (acc ++ t.take ((c.toNat % 128 + 1) * z)) := by
  rcases h with ⟨h1, h⟩ | ⟨h1, h⟩
  · rw [unpackT_cons _ _ _ _ (by omega)] at h
    by_cases h2 : need - k < c.toNat % 128 + 1
    · rw [if_pos h2] at h
      exact .inr ⟨by omega, h⟩
    · rw [if_neg h2, if_neg hc, if_neg hl, Option.map_map] at h
      refine .inl ⟨by omega, ?_⟩
      rw [h, Nat.sub_sub]
      congr 1
      funext o
      simp
  · exact .inr ⟨by omega, h⟩
theorem UnSt.done {z need : Nat} {s acc t : List UInt8} (h : UnSt z need s need t acc) : unpackT z need s = some (acc, t) := by
  rcases h with ⟨_, h⟩ | ⟨h1, _⟩
  · rw [h, Nat.sub_self, unpackT_zero]; simp
  · omega
theorem UnSt.over {z need k : Nat} {s acc t : List UInt8} (h : UnSt z need s k t acc) (hk : need < k) : unpackT z need s = none := by
  rcases h with ⟨h1, _⟩ | ⟨_, h⟩
  · omega
  · exact h

set_option maxHeartbeats 1600000 in
theorem unpack_any (g z need : Nat) (s : List UInt8) (w : World) (h : SlotN w g [strV s]) (hg : g < w.heap.size) (hz : z = 3 ∨ z = 4) (hl : s.length ≤ 1000000) (hn : need ≤ 256) :
    Calls Try.prog 44 #[.pointer (some ⟨g, 0, none⟩), .int .i64 (z : Int), .int .i64 (need : Int)] w (UnRes g z need s w) := by
  have FIN1 : Hid (∀ o w', unpackT z need s = some o → w.grownBy w' (some g) → SlotN w' g [strV o.2] → UnRes g z need s w (.returned (.string ⟨o.1.toArray⟩)) w') := Lib.hid fun o w' h1 h2 h3 =>
    ⟨h2, fun o' h' => by rw [h1] at h'; cases h'; exact ⟨rfl, h3⟩, fun h' => by rw [h1] at h'; cases h'⟩
  have FIN2 : Hid (∀ w', unpackT z need s = none → w.grownBy w' (some g) → UnRes g z need s w (Thrown 6) w') := Lib.hid fun w' h1 h2 =>
    ⟨h2, (fun o' h' => by rw [h1] at h'; cases h'), fun _ => rfl⟩
  generalize hQ : UnRes g z need s w = Qp at FIN1 FIN2 ⊢
  clear hQ
  unfold Thrown at *
  have hB := Bld.new w w.heap.size w.heap.size rfl (Nat.le_refl _)
  have hb1 : Below w.heap.size w (w.alloc (.cells #[.pointer none, .slice none 0 0] 52)) := (Below.refl _ _).alloc (Nat.le_refl _) _
  have hU : UnAt w (w.alloc (.cells #[.pointer none, .slice none 0 0] 52)) g [] s := ⟨hB, h.below hb1 hg, ⟨hb1.os, hb1.tape, hb1.output, hb1.size, fun k hk _ => hb1.block k hk⟩⟩
  have HU := Lib.hid hU
  have HST := Lib.hid (UnSt.start z need s)
  clear hU hB hb1 h
  have zn1 : (0 : Int) ≤ (z : Int) * (need : Int) := Int.mul_nonneg (by omega) (by omega)
  have zn2 : (z : Int) * (need : Int) ≤ 1024 := by
    have : z * need ≤ 4 * 256 := Nat.mul_le_mul (by omega) hn
    have : ((z * need : Nat) : Int) ≤ 1024 := by omega
    simpa using this
  have ZN : Hid (((z * need : Nat) : Int) = (z : Int) * (need : Int)) := Lib.hid (by simp)
  obtain ⟨hz3, hz4⟩ : 3 ≤ z ∧ z ≤ 4 := by omega
  clear hz
  generalize hX : (z : Int) * (need : Int) = ZX at *
  have HZX := Lib.hid hX
  go_enter Try.func44, Try.ntmps44
  go_wp2_with fail
  generalize w.alloc (.cells #[.pointer none, .slice none 0 0] 52) = V0 at *
  go_loopw [] (fun wr => ∃ (k : Nat) (acc t : List UInt8), Hid (UnAt w wr g acc t) ∧ Hid (UnSt z need s k t acc) ∧ acc.length = k * z ∧ t.length ≤ 1000000 ∧ k ≤ 400) (fun wr => leftW wr g)
  case atStart => exact ⟨0, [], s, HU, HST, by simp, hl, by omega⟩
  case round =>
    clear HU HST
    obtain ⟨k, acc, t, HU, HST, hak, htl, hk4⟩ := hrel
    have hsz : w.heap.size ≤ wr.heap.size := HU.out.grown.size
    have KL := Lib.hid (blen_any w.heap.size w.heap.size acc wr HU.out.b)
    have hkz : k * z ≤ 1600 := by
      have : k * z ≤ 400 * 4 := Nat.mul_le_mul hk4 hz4
      omega
    by_cases hlt : k < need
    · have h9 : k * z < z * need := by rw [Nat.mul_comm z need]; exact Nat.mul_lt_mul_of_pos_right hlt (by omega)
      have t0 : decide ((acc.length : Int) < ZX) = true := decide_eq_true (by rw [← ZN.out, hak]; omega)
      have HAK := Lib.hid hak; clear hak h9
      have hal : acc.length ≤ 1600 := by rw [HAK.out]; exact hkz
      cases t with
      | nil =>
        have KT := Lib.hid (take_bad g [] 1 wr HU.out.s (by simp) (by simp))
        have HN := Lib.hid (HST.out.empty hlt)
        have HGR := Lib.hid HU.out.grown
        unfold Thrown at KT
        go_wp2_with fail
        refine KL.out.mono ?_
        clear KL
        rintro e w' ⟨rfl, rfl⟩
        go_wp2_with fail
        refine KT.out.mono ?_
        clear KT
        rintro e w' ⟨rfl, rfl⟩
        go_wp2_with fail
        exact ⟨rfl, FIN2.out _ HN.out HGR.out⟩
      | cons c t =>
        have KT := Lib.hid (take_ok g (c :: t) 1 1 wr HU.out.s rfl (by simp) htl)
        have hU1 := HU.out.took hg t
        have HU1 := Lib.hid hU1; clear hU1
        have hml : Hid (leftW wr g = t.length + 1) := Lib.hid (by rw [leftW_is HU.out.s]; rfl)
        unfold strV at KT
        simp only [List.take_succ_cons, List.take_zero, List.drop_succ_cons, List.drop_zero] at KT
        unfold strV at HU1
        generalize hV : wr.setCell ⟨g, 0, none⟩ (.string ⟨t.toArray⟩) = V1 at *
        clear hV
        clear HU
        have htl' : t.length ≤ 1000000 := by simp at htl; omega
        clear htl
        have hc256 := c.toNat_lt
        have HI := idx_one c
        obtain ⟨cn, hcn⟩ : ∃ cn : Nat, c.toNat = cn := ⟨_, rfl⟩
        have hcb : cn ≤ 255 := by omega
        have tm : (cn : Int).tmod 128 = ((cn % 128 : Nat) : Int) := rfl
        obtain ⟨q, hq⟩ : ∃ q, q = c.toNat % 128 := ⟨_, rfl⟩
        rw [hcn] at HI
        rw [← hcn, ← hq, hcn] at tm
        have hq2 : q ≤ 127 := by omega
        clear hc256
        have HQ := Lib.hid hq; clear hq
        have hsz1 : w.heap.size ≤ V1.heap.size := HU1.out.grown.size
        by_cases hc : 128 ≤ c.toNat
        · have t1 : decide (128 ≤ (cn : Int)) = true := decide_eq_true (by omega)
          by_cases hl9 : t.length < z
          · have HN := Lib.hid (HST.out.short hlt hc hl9)
            have KT2 := Lib.hid (take_bad g t z V1 HU1.out.s (by omega) htl')
            unfold Thrown at KT2
            have HGR := Lib.hid HU1.out.grown
            clear hl9 hc hcn
            go_wp2_with fail
            refine KL.out.mono ?_
            clear KL
            rintro e w' ⟨rfl, rfl⟩
            go_wp2_with fail
            refine KT.out.mono ?_
            clear KT
            rintro e w' ⟨rfl, rfl⟩
            go_wp2_with fail
            refine KT2.out.mono ?_
            clear KT2
            rintro e w' ⟨rfl, rfl⟩
            go_wp2_with fail
            exact ⟨rfl, FIN2.out _ HN.out HGR.out⟩
          · have HST2 := Lib.hid (HST.out.run hlt hc hl9)
            rw [← HQ.out] at HST2
            have KT2 := Lib.hid (take_ok g t z z V1 HU1.out.s rfl (by omega) htl')
            have HU2 := Lib.hid (HU1.out.took hg (t.drop z))
            unfold strV at KT2 HU2
            generalize hV : V1.setCell ⟨g, 0, none⟩ (.string ⟨(t.drop z).toArray⟩) = V2 at *
            clear hV
            have hsz2 : w.heap.size ≤ V2.heap.size := HU2.out.grown.size
            have ht9 : (t.take z).length = z := by rw [List.length_take]; omega
            have KR := Lib.hid (repeat_any (t.take z) ((q : Int) + 1) (q + 1) V2 (by omega) (by omega) (by omega))
            have hrl : ((List.replicate (q + 1) (t.take z)).flatten).length = (q + 1) * z := by simp [ht9]
            have hqz : (q + 1) * z ≤ 512 := by
              have : (q + 1) * z ≤ 128 * 4 := Nat.mul_le_mul (by omega) hz4
              omega
            have HRL := Lib.hid hrl
            have HDL : Hid ((t.drop z).length < t.length + 1) := Lib.hid (by rw [List.length_drop]; omega)
            have htl2 : (t.drop z).length ≤ 1000000 := by rw [List.length_drop]; omega
            generalize List.replicate (q + 1) (t.take z) = RP at *
            generalize t.drop z = t2 at *
            generalize t.take z = t1' at *
            clear hl9 hc hcn hrl ht9
            go_wp2_with fail
            refine KL.out.mono ?_
            clear KL
            rintro e w' ⟨rfl, rfl⟩
            go_wp2_with fail
            refine KT.out.mono ?_
            clear KT
            rintro e w' ⟨rfl, rfl⟩
            go_wp2_with fail
            refine KT2.out.mono ?_
            clear KT2
            rintro e w' ⟨rfl, rfl⟩
            go_wp2_with fail
            refine KR.out.mono ?_
            clear KR
            rintro e V3 ⟨rfl, hb3⟩
            have HU3 := Lib.hid (HU2.out.below hg hb3)
            have hsz3 : w.heap.size ≤ V3.heap.size := HU3.out.grown.size
            have KW := Lib.hid (wstr_any w.heap.size w.heap.size acc RP.flatten V3 HU3.out.b (by rw [HRL.out]; omega) hsz3)
            clear hb3
            go_wp2_with fail
            refine KW.out.mono ?_
            clear KW
            rintro e V4 ⟨rfl, hw⟩
            have HU4 := Lib.hid (HU3.out.wrote hg hw)
            clear hw
            go_wp2_with fail
            go_roundw
            case rel => exact ⟨k + (q + 1), _, _, HU4, HST2, by rw [List.length_append, HRL.out, HAK.out, Nat.add_mul k], htl2, by omega⟩
            case measure => rw [leftW_is HU4.out.s, hml.out]; exact HDL.out
        · have t1 : decide (128 ≤ (cn : Int)) = false := decide_eq_false (by omega)
          have mz : ((z * (q + 1) : Nat) : Int) = (z : Int) * ((q : Int) + 1) := by simp
          have hqz : (q + 1) * z ≤ 512 := by
            have : (q + 1) * z ≤ 128 * 4 := Nat.mul_le_mul (by omega) hz4
            omega
          have hcz : z * (q + 1) = (q + 1) * z := Nat.mul_comm _ _
          have mz0 : (0 : Int) ≤ (z : Int) * ((q : Int) + 1) := by omega
          have mz1 : (z : Int) * ((q : Int) + 1) ≤ 512 := by omega
          by_cases hl9 : t.length < (q + 1) * z
          · have HN := Lib.hid (HST.out.short2 hlt hc (by rw [← HQ.out]; exact hl9))
            have KT2 := Lib.hid (take_bad g t ((z : Int) * ((q : Int) + 1)) V1 HU1.out.s (by omega) htl')
            unfold Thrown at KT2
            have HGR := Lib.hid HU1.out.grown
            clear hl9 hc hcn mz hcz hqz
            go_wp2_with fail
            refine KL.out.mono ?_
            clear KL
            rintro e w' ⟨rfl, rfl⟩
            go_wp2_with fail
            refine KT.out.mono ?_
            clear KT
            rintro e w' ⟨rfl, rfl⟩
            go_wp2_with fail
            refine KT2.out.mono ?_
            clear KT2
            rintro e w' ⟨rfl, rfl⟩
            go_wp2_with fail
            exact ⟨rfl, FIN2.out _ HN.out HGR.out⟩
          · have HST2 := Lib.hid (HST.out.lit hlt hc (by rw [← HQ.out]; exact hl9))
            rw [← HQ.out] at HST2
            have KT2 := Lib.hid (take_ok g t ((z : Int) * ((q : Int) + 1)) ((q + 1) * z) V1 HU1.out.s (by omega) (by omega) htl')
            have HU2 := Lib.hid (HU1.out.took hg (t.drop ((q + 1) * z)))
            unfold strV at KT2 HU2
            have HRL : Hid ((t.take ((q + 1) * z)).length = (q + 1) * z) := Lib.hid (by rw [List.length_take]; omega)
            have HDL : Hid ((t.drop ((q + 1) * z)).length < t.length + 1) := Lib.hid (by rw [List.length_drop]; omega)
            have htl2 : (t.drop ((q + 1) * z)).length ≤ 1000000 := by rw [List.length_drop]; omega
            generalize hV : V1.setCell ⟨g, 0, none⟩ (.string ⟨(t.drop ((q + 1) * z)).toArray⟩) = V2 at *
            clear hV
            have hsz2 : w.heap.size ≤ V2.heap.size := HU2.out.grown.size
            generalize t.drop ((q + 1) * z) = t2 at *
            generalize t.take ((q + 1) * z) = t1' at *
            clear hl9 hc hcn mz hcz
            go_wp2_with fail
            refine KL.out.mono ?_
            clear KL
            rintro e w' ⟨rfl, rfl⟩
            go_wp2_with fail
            refine KT.out.mono ?_
            clear KT
            rintro e w' ⟨rfl, rfl⟩
            go_wp2_with fail
            refine KT2.out.mono ?_
            clear KT2
            rintro e w' ⟨rfl, rfl⟩
            have HU3 := HU2
            have KW := Lib.hid (wstr_any w.heap.size w.heap.size acc t1' _ HU2.out.b (by rw [HRL.out]; omega) hsz2)
            go_wp2_with fail
            refine KW.out.mono ?_
            clear KW
            rintro e V4 ⟨rfl, hw⟩
            have HU4 := Lib.hid (HU3.out.wrote hg hw)
            clear hw
            go_wp2_with fail
            go_roundw
            case rel => exact ⟨k + (q + 1), _, _, HU4, HST2, by rw [List.length_append, HRL.out, HAK.out, Nat.add_mul k], htl2, by omega⟩
            case measure => rw [leftW_is HU4.out.s, hml.out]; exact HDL.out
    · have h9 : ¬ k * z < z * need := by rw [Nat.mul_comm z need]; have := Nat.mul_le_mul_right z (Nat.le_of_not_lt hlt); omega
      have t0 : decide ((acc.length : Int) < ZX) = false := decide_eq_false (by rw [← ZN.out, hak]; omega)
      have HGR := Lib.hid HU.out.grown
      by_cases hke : k = need
      · have HN := Lib.hid (UnSt.done (hke ▸ HST.out))
        have t1 : ((acc.length : Int) == ZX) = true := by rw [← ZN.out, hak, hke, Nat.mul_comm]; simp
        have KT := Lib.hid (btext_any w.heap.size w.heap.size acc wr HU.out.b hsz)
        have KM := Lib.hid must_ok
        clear hak h9 hke hlt
        go_wp2_with fail
        refine KL.out.mono ?_
        rintro e w' ⟨rfl, rfl⟩
        go_wp2_with fail
        refine KL.out.mono ?_
        clear KL
        rintro e w' ⟨rfl, rfl⟩
        go_wp2_with fail
        refine (KM.out _).mono ?_
        clear KM
        rintro e w' ⟨rfl, rfl⟩
        go_wp2_with fail
        refine KT.out.mono ?_
        clear KT
        rintro e w3 ⟨rfl, hw⟩
        have HF := Lib.hid (HU.out.wrote hg hw)
        clear hw
        go_wp2_with fail
        exact FIN1.out _ _ HN.out HF.out.grown HF.out.s
      · have HN := Lib.hid (HST.out.over (by omega))
        have t1 : ((acc.length : Int) == ZX) = false := by
          have : z * need < k * z := by rw [Nat.mul_comm z need]; exact Nat.mul_lt_mul_of_pos_right (by omega) (by omega)
          rw [← ZN.out, hak]; simp; omega
        have KM := Lib.hid must_bad
        unfold Thrown at KM
        clear hak h9 hke hlt
        go_wp2_with fail
        refine KL.out.mono ?_
        rintro e w' ⟨rfl, rfl⟩
        go_wp2_with fail
        refine KL.out.mono ?_
        clear KL
        rintro e w' ⟨rfl, rfl⟩
        go_wp2_with fail
        refine (KM.out _).mono ?_
        clear KM
        rintro e w' ⟨rfl, rfl⟩
        go_wp2_with fail
        exact ⟨rfl, FIN2.out _ HN.out HGR.out⟩
end Go.Proofs.Ytfkkppagbhllgaa
