/-
  THE STEPS OF tga.turned, slices.Chunk and its iterator.
-/
import Derived.Test.YtfkkppagbhllgaaTgaWalkG
import Derived.Test.YtfkkppagbhllgaaRowN
set_option linter.unusedVariables false
set_option linter.unusedSimpArgs false
namespace Go.Proofs.Ytfkkppagbhllgaa
open Go.RowKit Go.Shelf

theorem chunk_any (g n c z : Nat) (w : World) (hz : 1 ≤ z ∧ z ≤ 4) :
    Calls Try.prog 56 #[.slice (some ⟨g, 0, none⟩) n c, .int .i64 (z : Int)] w fun e w' =>
      e = .returned (.func (.func 69) #[] #[.pointer (some ⟨w.heap.size, 0, none⟩), .pointer (some ⟨w.heap.size + 1, 0, none⟩)]) ∧
      w' = (w.alloc (.cells #[.slice (some ⟨g, 0, none⟩) n c] 22)).alloc (.cells #[.int .i64 (z : Int)] 3) := by
  have t0 : decide ((z : Int) < 1) = false := decide_eq_false (by omega)
  go_enter Try.func56, Try.ntmps56
  go_wp2_with fail
  go_ret
  exact ⟨rfl, rfl⟩

attribute [local go_sem] Oper.semAt_some

/-- a chunk's number -/
abbrev ChI (m : Nat) := { k : Nat // k < m }
def chV (g z k : Nat) : Array Value := #[.slice (some ⟨g, k * z, none⟩) z z]
def Keep2 (b : Nat) (A B : World) : Prop := KeepB b A B ∧ KeepB (b + 1) A B
theorem Keep2.trans {b : Nat} {A B C : World} (h : Keep2 b A B) (k : Keep2 b B C) : Keep2 b A C := ⟨h.1.trans k.1, h.2.trans k.2⟩

set_option maxRecDepth 100000 in
set_option maxHeartbeats 1600000 in
theorem chunk1_in (l bp g n c z m : Nat) (hz : z = 3 ∨ z = 4) (hm : n = m * z) (hn : n ≤ 1000000) (hc : n ≤ c) (hc2 : c ≤ 9223372036854775807) (J Jx : List (ChI m) → World → Prop) (W : World)
    (hJa : AbidesFrom W.heap.size J)
    (hY : ∀ pre t W1, J pre W1 → pre.length < m → YieldAt Fence.wide 4 Try.prog l (chV g z t.1) W1 fun e W' =>
      (e = .returned (.bool true) ∧ J (pre ++ [t]) W' ∧ Keep2 bp W1 W') ∨ (e = .returned (.bool false) ∧ Jx (pre ++ [t]) W'))
    (c0 : W.cell? ⟨bp, 0, none⟩ = some (.slice (some ⟨g, 0, none⟩) n c)) (c1 : W.cell? ⟨bp + 1, 0, none⟩ = some (.int .i64 (z : Int))) (hbp : bp + 1 < W.heap.size) (h0 : J [] W) :
    CallsIn Fence.wide 5 Try.prog 69 #[.func (.yield l) #[] #[], .pointer (some ⟨bp, 0, none⟩), .pointer (some ⟨bp + 1, 0, none⟩)] W fun e W' => (∃ v, e = .returned v) ∧
      ((∃ ys : List (ChI m), ys.map Subtype.val = List.range m ∧ J ys W') ∨ (∃ pre, True ∧ Jx pre W')) := by
  have HY := Lib.hid hY; clear hY
  have HJA := Lib.hid hJa; clear hJa
  have HMN := Lib.hid hm
  obtain ⟨hz3, hz4⟩ : 3 ≤ z ∧ z ≤ 4 := by omega
  refine callsIn_of_wp Try.func69 rfl trivial ?_ rfl
  simp only [Try.ntmps69, List.size_toArray, List.length_cons, List.length_nil, Nat.reduceAdd, Nat.reduceSub, Array.replicate_succ, Array.replicate_zero, List.push_toArray, List.append_toArray, List.nil_append, List.cons_append]
  clear hm
  gi_wp2
  gi_loopw [4] (fun u wr => ∃ (k i : Nat) (pre : List (ChI m)), u = .int .i64 (i : Int) ∧ Hid (i = k * z) ∧ i ≤ n ∧ k ≤ m ∧ Hid (pre.map Subtype.val = List.range k) ∧ Hid (J pre wr) ∧ Keep2 bp W wr) (fun u _ => n - (intOf u).toNat)
  case atStart => exact ⟨0, 0, [], by simp, Lib.hid (by simp), by omega, by omega, Lib.hid rfl, Lib.hid h0, ⟨rfl, Nat.le_refl _⟩, ⟨rfl, Nat.le_refl _⟩⟩
  case round =>
    obtain ⟨k, i, pre, rfl, HI, hin, hk, hpre, hJ, hK⟩ := hrel
    have d0 := (hK.1.cell 0).trans c0
    have d1 := (hK.2.cell 0).trans c1
    have HK := Lib.hid hK; clear hK
    by_cases hlt : k < m
    · have hik : i + z ≤ n := by rw [HI.out, HMN.out, ← Nat.succ_mul]; exact Nat.mul_le_mul_right _ hlt
      have t0 : decide (i < n) = true := decide_eq_true (by omega)
      have HMI : ∀ ts ty W, (Builtin.min_ ts ty #[.int .i64 (z : Int), .int .i64 ((n - i : Nat) : Int)]).run Try.prog W = .ok (.int .i64 (z : Int)) W := fun ts ty W => by
        rw [run_min_int2, if_neg (by omega)]
      have hlen : pre.length < m := by
        have := congrArg List.length hpre.out
        simp at this; omega
      obtain ⟨fn, tmps, assign, body, hy, hR⟩ := HY.out pre ⟨k, hlt⟩ wr.drew (abide_below HJA.out hJ.out (Below.refl _ _).drew) hlen
      have HP : Hid ((pre ++ [(⟨k, hlt⟩ : ChI m)]).map Subtype.val = List.range (k + 1)) := Lib.hid (by rw [List.map_append, hpre.out, List.range_succ]; rfl)
      dsimp only [chV] at hy
      rw [← HI.out] at hy
      clear hlen
      have a1 : (⟨g, 0, none⟩ : Addr).add i = ⟨g, i, none⟩ := addr_lit _ _
      have i0 : (0 : Int) ≤ (i : Int) := by omega
      have e9 : ((i : Int) + (z : Int)).toNat - i = z := by omega
      gi_wp2
      gi_region
      gi_wp2
      refine hR.mono ?_
      rintro e W3 (⟨rfl, hJ3, hk3⟩ | ⟨rfl, hJx3⟩)
      · have hK3 := HK.out.trans hk3
        have d0 := (hK3.1.cell 0).trans c0
        have d1 := (hK3.2.cell 0).trans c1
        have HK3 := Lib.hid hK3
        have HJ3 := Lib.hid hJ3; clear hJ3 hk3 hK3
        have HI2 : Hid (i + z = (k + 1) * z) := Lib.hid (by rw [Nat.succ_mul, HI.out])
        gi_wp2
        go_roundw
        case rel => exact ⟨k + 1, i + z, _, by go_num, HI2, hik, by omega, HP, HJ3, HK3.out⟩
        case measure => simp only [intOf]; omega
      · have HJx := Lib.hid hJx3; clear hJx3
        gi_wp2
        refine bodyPost_ret (results_none rfl _ _ _) rfl ?_
        exact ⟨⟨_, rfl⟩, .inr ⟨_, trivial, HJx.out⟩⟩
    · have t0 : decide (i < n) = false := decide_eq_false (by
        have : k = m := by omega
        rw [HI.out, this, HMN.out]; omega)
      have HFIN : Hid (pre.map Subtype.val = List.range m) := Lib.hid (by rw [hpre.out]; congr 1; omega)
      gi_wp2
      go_end0
      exact ⟨⟨_, rfl⟩, .inl ⟨pre, HFIN.out, hJ.out⟩⟩

/-! ### a drawn region in a round: as out of one, where it holds no defer statement -/
theorem upon_round {F : Fence} {n l : Nat} {P : Program} {o : Oper} {a : Act} {next : Act → World → Prop} {Q : Exit → Act → World → Prop} {r : Result Next} (h : o.uponIn F n P a next Q r) : o.uponIn (F.inRound l) n P a next Q r := by
  cases r with
  | ok x w' => cases x <;> exact h
  | halt x w' => cases x <;> exact h
theorem opIn_round {F : Fence} {n l i : Nat} {P : Program} {ops : Array Oper} {K : Act → World → Prop} {Q : Exit → Act → World → Prop} {a : Act} {w : World} (hro : F.round = none) (hd : ∀ o ∈ ops, ∀ c, o.op ≠ .defer c)
    (h : wpOpIn F n P ops Q i K a w) : wpOpIn (F.inRound l) n P ops Q i K a w := by
  unfold wpOpIn at *
  cases hi : ops[i]? with
  | none => simp only [hi] at h ⊢; exact h
  | some o =>
    simp only [hi] at h ⊢
    split
    · rename_i hw
      simp only [hw, if_true] at h
      refine ⟨h.1, ?_⟩
      have h2 := h.2
      rw [hro, Oper.semAt_none] at h2
      rw [show (F.inRound l).round = some l from rfl, Oper.semAt_some _ _ _ (hd o (Array.mem_of_getElem? hi))]
      exact upon_round h2
    · rename_i hw
      simp only [hw] at h
      exact h
theorem anyIn_round {F : Fence} {n l : Nat} {P : Program} {ops : Array Oper} {Q : Exit → Act → World → Prop} {md : Region.Mode} (hro : F.round = none) (hd : ∀ o ∈ ops, ∀ c, o.op ≠ .defer c) :
    ∀ (fuel : Nat) (listed : Array Bool) (a : Act) (w : World), wpAnyIn F n P md ops Q fuel listed a w → wpAnyIn (F.inRound l) n P md ops Q fuel listed a w
  | 0, _, _, _, h => h
  | fuel + 1, listed, a, w, h => ⟨h.1, fun i hi => wpOpIn_mono (fun a w h => anyIn_round hro hd fuel _ a w h) (opIn_round hro hd (h.2 i hi))⟩
def notDefer (o : Oper) : Bool := match o.op with | .defer _ => false | _ => true
theorem notDefer_all {ops : Array Oper} (h : ops.all notDefer = true) : ∀ o ∈ ops, ∀ c, o.op ≠ .defer c := by
  intro o ho c e
  rw [Array.all_eq_true_iff_forall_mem] at h
  have := h o ho
  unfold notDefer at this
  rw [e] at this
  cases this
theorem region_round {F : Fence} {n l id : Nat} {P : Program} {ops : Array Oper} {Q : Exit → Act → World → Prop} {a : Act} {w : World} (hro : F.round = none) (hd : ∀ o ∈ ops, ∀ c, o.op ≠ .defer c) (hm : P.follows .mixedOrders = true)
    (h : wpAnyIn F n P .any ops Q ops.size (Array.replicate ops.size false) a { w with drawn := w.drawn + 1 }) : (Code.region id ops true).wpIn (F.inRound l) n P Q a w :=
  wpIn_region_any hm (anyIn_round hro hd _ _ _ _ h)

/-- chunks changed one by one -/
def foldT (z : Nat) (s : List UInt8) (ks : List Nat) : List UInt8 := ks.foldl (fun l k => swapT l (k * z)) s
theorem foldT_len (z : Nat) : ∀ (ks : List Nat) (s : List UInt8), (foldT z s ks).length = s.length
  | [], s => rfl
  | k :: ks, s => by
    have := foldT_len z ks (swapT s (k * z))
    rw [swapT_len] at this
    exact this
theorem foldT_snoc (z : Nat) (s : List UInt8) (ks : List Nat) (k : Nat) : foldT z s (ks ++ [k]) = swapT (foldT z s ks) (k * z) := by simp [foldT]
theorem foldT_range (z : Nat) (s : List UInt8) : ∀ m, foldT z s (List.range m) = turnK z s m
  | 0 => rfl
  | m + 1 => by rw [List.range_succ, foldT_snoc, foldT_range z s m, turnK]
theorem RowN.own {w w' : World} {g : Nat} {bs : List Nat} {row : Option Nat} (h : RowN w g bs) (hg : w.grownBy w' row) (hr : ∀ r, row = some r → ∃ o : Obj, w.heap[r]? = some o ∧ o.isCells = false) : RowN w' g bs := by
  refine ⟨fun j d hj => cell_kept (h.c j d hj) hg hr, fun j hj => (frozen_kept (h.c j _ (List.getElem?_eq_getElem hj)) hg hr).trans (h.f j hj)⟩
theorem swap_nat (l : List UInt8) (i : Nat) (h : i + 2 < l.length) : (swapT l i).map UInt8.toNat = ((l.map UInt8.toNat).set i (l.getD (i + 2) 0).toNat).set (i + 2) (l.getD i 0).toNat := by
  unfold swapT; rw [List.map_set, List.map_set]
theorem chunk_stops (bp g n c z m : Nat) (hz : z = 3 ∨ z = 4) (hm : n = m * z) (hn : n ≤ 1000000) (hc : n ≤ c) (hc2 : c ≤ 9223372036854775807) (w : World)
    (c0 : w.cell? ⟨bp, 0, none⟩ = some (.slice (some ⟨g, 0, none⟩) n c)) (c1 : w.cell? ⟨bp + 1, 0, none⟩ = some (.int .i64 (z : Int))) (hbp : bp + 1 < w.heap.size) :
    SeqStopsK Fence.wide 5 Try.prog 69 #[.pointer (some ⟨bp, 0, none⟩), .pointer (some ⟨bp + 1, 0, none⟩)] (fun t : ChI m => chV g z t.1) (Keep2 bp)
      (fun ys => ys.map Subtype.val = List.range m) (fun _ => True) m w := fun l J Jx W hW hJ _ hY h0 => by
  have e : ∀ k j, k < w.heap.size → W.cell? ⟨k, j, none⟩ = w.cell? ⟨k, j, none⟩ := fun k j hk => hW.cell (p := ⟨k, j, none⟩) hk
  exact chunk1_in l bp g n c z m hz hm hn hc hc2 J Jx W hJ hY (by rw [e _ _ (by omega)]; exact c0) (by rw [e _ _ (by omega)]; exact c1) (Nat.lt_of_lt_of_le hbp hW.size) h0
theorem keepB_set {b : Nat} {W : World} (g j : Nat) (u : Value) (hne : g ≠ b) : KeepB b W (W.setCell ⟨g, j, none⟩ u) :=
  ⟨Below.heap_setCell _ _ _ _ (fun e => hne e.symm), by simp⟩

set_option maxRecDepth 100000 in
set_option maxHeartbeats 1600000 in
theorem turned_any (z m : Nat) (s : List UInt8) (w : World) (hz : z = 3 ∨ z = 4) (hl : s.length ≤ 1000000) (hm : s.length = m * z) (hm0 : 0 < m) :
    Calls Try.prog 33 #[.string ⟨s.toArray⟩, .int .i64 (z : Int)] w (SR w (turnedT z s)) := by
  have hz9 : 1 ≤ z ∧ z ≤ 4 := by omega
  have hT : turnedT z s = foldT z s (List.range m) := by
    unfold turnedT
    rw [foldT_range, hm, Nat.mul_div_cancel _ (by omega)]
  rw [hT]
  have hcv := run_bytes_of_string (P := Try.prog) w 9 22 5 ⟨s.toArray⟩ Try.underlying9 Try.underlying22 Try.underlying5
  obtain ⟨n, hn⟩ : ∃ n, n = s.length := ⟨_, rfl⟩
  have hsz : (⟨s.toArray⟩ : ByteArray).size = n := hn.symm
  have hn0 : 0 < n := by rw [hn, hm]; exact Nat.mul_pos hm0 (by omega)
  rw [← hn] at hl
  obtain ⟨cap, hcap⟩ : ∃ c, c = grownCap w n 0 5 := ⟨_, rfl⟩
  have hcap2 : n ≤ cap := by rw [hcap]; exact grownCap_ge _ _ _ _
  have hcap3 : cap ≤ 9223372036854775807 := by rw [hcap]; exact grownCap_le_maxLen _ _ _ _ (by unfold maxLen; omega)
  have r0 := RowN.of_bytes w s cap (by rw [← hn]; exact hcap2) 5
  have hb0 : Below w.heap.size w (w.drew.alloc (.cells (bytesRow ⟨s.toArray⟩ cap) 5 ((bytesRow ⟨s.toArray⟩ cap).size, (bytesRow ⟨s.toArray⟩ cap).size + 1))) := (Below.refl _ _).drew.alloc (Nat.le_refl _) _
  have hz0 : (w.drew.alloc (.cells (bytesRow ⟨s.toArray⟩ cap) 5 ((bytesRow ⟨s.toArray⟩ cap).size, (bytesRow ⟨s.toArray⟩ cap).size + 1))).heap.size = w.heap.size + 1 := by simp
  rw [hsz, ← hcap] at hcv
  obtain ⟨V, hV⟩ : ∃ V, V = w.drew.alloc (.cells (bytesRow ⟨s.toArray⟩ cap) 5 ((bytesRow ⟨s.toArray⟩ cap).size, (bytesRow ⟨s.toArray⟩ cap).size + 1)) := ⟨_, rfl⟩
  rw [← hV] at hcv r0 hb0 hz0
  clear hV hcap
  have FIN : Hid (∀ w', Below w.heap.size w w' → SR w (foldT z s (List.range m)) (.returned (.string ⟨(foldT z s (List.range m)).toArray⟩)) w') := Lib.hid fun w' hb => ⟨rfl, hb⟩
  generalize hQ : SR w (foldT z s (List.range m)) = Qp at FIN ⊢
  clear hQ
  have HN := Lib.hid hn
  have HMM : Hid (n = m * z) := Lib.hid (hn.trans hm)
  clear hn hm hsz hT
  refine (callsIn_wide (n := 6)).1 ?_
  refine callsIn_of_wp_marks Try.func33 rfl trivial ?_ rfl
  simp only [Try.ntmps33, List.size_toArray, List.length_cons, List.length_nil, Nat.reduceAdd, Nat.reduceSub, Array.replicate_succ, Array.replicate_zero, List.push_toArray, List.append_toArray, List.nil_append, List.cons_append]
  gi_wp2
  refine ⟨trivial, (callsIn_wide.2 (chunk_any w.heap.size n cap z V hz9)).mono ?_⟩
  rintro e w' ⟨rfl, rfl⟩
  have s1 := SlotN.new V [.slice (some ⟨w.heap.size, 0, none⟩) n cap] #[.slice (some ⟨w.heap.size, 0, none⟩) n cap] 22 rfl
  have b1 : Below V.heap.size V (V.alloc (.cells #[.slice (some ⟨w.heap.size, 0, none⟩) n cap] 22)) := (Below.refl _ _).alloc (Nat.le_refl _) _
  have z1 : (V.alloc (.cells #[.slice (some ⟨w.heap.size, 0, none⟩) n cap] 22)).heap.size = w.heap.size + 1 + 1 := by simp [hz0]
  rw [hz0] at s1
  generalize V.alloc (.cells #[.slice (some ⟨w.heap.size, 0, none⟩) n cap] 22) = V1 at *
  have s2 := SlotN.new V1 [.int .i64 (z : Int)] #[.int .i64 (z : Int)] 3 rfl
  have b2 : Below V1.heap.size V1 (V1.alloc (.cells #[.int .i64 (z : Int)] 3)) := (Below.refl _ _).alloc (Nat.le_refl _) _
  have z2 : (V1.alloc (.cells #[.int .i64 (z : Int)] 3)).heap.size = w.heap.size + 3 := by simp [z1]
  rw [z1] at s2
  generalize V1.alloc (.cells #[.int .i64 (z : Int)] 3) = W0 at *
  have s1 := s1.below b2 (by omega)
  have r2 := (r0.below b1 (by omega)).below b2 (by omega)
  have hbW : Below w.heap.size w W0 := hb0.trans ((b1.mono (by omega)).trans (b2.mono (by omega)))
  clear r0 b1 b2 hb0 hcv
  have HSEQ := Lib.hid (chunk_stops (w.heap.size + 1) w.heap.size n cap z m hz HMM.out hl hcap2 hcap3 W0 (s1.c 0 _ rfl) (s2.c 0 _ rfl) (by omega))
  gi_wp2
  refine wpIn_rangeFunc_ownH (F := Fence.wide) rfl (show 1 ≤ 6 by omega) (gf := 69) (lb := #[.pointer (some ⟨w.heap.size + 1, 0, none⟩), .pointer (some ⟨w.heap.size + 1 + 1, 0, none⟩)]) rfl trivial (enters_of Try.func69 (by kernel_rfl) rfl)
    HSEQ.out (fun h k => h.trans k) (fun W l o o' hl9 ho hc _ => ⟨⟨by rw [World.putObj_heap_other (by omega)], by simp [World.putObj]⟩, ⟨by rw [World.putObj_heap_other (by omega)], by simp [World.putObj]⟩⟩) (Below.refl _ _) (fun _ => rfl)
    (fun pre W => RowN W w.heap.size ((foldT z s (pre.map Subtype.val)).map UInt8.toNat) ∧ Below w.heap.size w W ∧ W0.heap.size ≤ W.heap.size) (fun _ _ _ => False)
    (fun pre X Y row h hg hr => ⟨h.1.own hg (fun r e => (hr r e).2), h.2.1.grown hg h.2.1.size (fun r e => by have := (hr r e).1; omega), Nat.le_trans h.2.2 hg.size⟩) (fun _ _ _ _ _ h _ _ => h) ⟨r2, hbW, Nat.le_refl _⟩
    (fun t a' W => a' = { tmps := #[.string ⟨s.toArray⟩, .int .i64 (z : Int), undef, undef, .string ⟨#[]⟩, .slice (some ⟨w.heap.size, 0, none⟩) n cap, .slice (some ⟨w.heap.size, t.1 * z, none⟩) z z, .string ⟨s.toArray⟩, .slice (some ⟨w.heap.size, 0, none⟩) n cap, .slice (some ⟨w.heap.size, 0, none⟩) n cap, .int .i64 (z : Int),
      .func (.func 69) #[] #[.pointer (some ⟨w.heap.size + 1, 0, none⟩), .pointer (some ⟨w.heap.size + 1 + 1, 0, none⟩)], .slice (some ⟨w.heap.size, t.1 * z, none⟩) z z, undef, undef, undef, undef, undef, undef, undef, undef, undef, undef, undef, undef], defers := [] })
    (fun t a' _ X Y row hs hg hr => hs)
    ?assign ?body ?done ?stop
  case assign =>
    rintro l pre t W K' hI hK'
    dsimp only [chV]
    gi_wp2
    exact hK' _ _ (KeepsFrom.refl _ _) ⟨⟨rfl, Nat.le_refl _⟩, ⟨rfl, Nat.le_refl _⟩⟩ hI rfl
  case body =>
    rintro l pre t a' W hl9 hr9 ⟨hr, hb, hsz⟩ rfl hlen
    obtain ⟨k, hk⟩ := t
    dsimp only
    have hP : Hid (∀ h, foldT z s ((pre ++ [(⟨k, h⟩ : ChI m)]).map Subtype.val) = swapT (foldT z s (pre.map Subtype.val)) (k * z)) := Lib.hid fun h => by rw [List.map_append]; exact foldT_snoc _ _ _ _
    have hlf : (foldT z s (pre.map Subtype.val)).length = n := by rw [foldT_len, HN.out]
    generalize foldT z s (pre.map Subtype.val) = x at *
    have hkz : k * z + z ≤ n := by rw [HMM.out, ← Nat.succ_mul]; exact Nat.mul_le_mul_right _ hk
    obtain ⟨i, hi⟩ : ∃ i, i = k * z := ⟨_, rfl⟩
    rw [← hi] at hkz hP ⊢
    clear hi
    have hml : (x.map UInt8.toNat).length = n := by simp [hlf]
    have hr1 := hr.set i (x.getD (i + 2) 0).toNat (by omega)
    have hr2 := hr1.set (i + 2) (x.getD i 0).toNat (by simp; omega)
    rw [← swap_nat x i (by omega)] at hr2
    have HR2 := Lib.hid hr2
    have c0 : W.cell? ⟨w.heap.size, i, none⟩ = some (.int .u8 ((x.getD i 0).toNat : Int)) := hr.c _ _ (by rw [List.getElem?_map, List.getElem?_eq_getElem (by omega), List.getD_eq_getElem?_getD, List.getElem?_eq_getElem (by omega)]; rfl)
    have c2 : W.cell? ⟨w.heap.size, i + 2, none⟩ = some (.int .u8 ((x.getD (i + 2) 0).toNat : Int)) := hr.c _ _ (by rw [List.getElem?_map, List.getElem?_eq_getElem (by omega), List.getD_eq_getElem?_getD, List.getElem?_eq_getElem (by omega)]; rfl)
    have f0 := hr.f i (by omega)
    have f2 := hr.f (i + 2) (by omega)
    have a2 : (⟨w.heap.size, i, none⟩ : Addr).add 2 = ⟨w.heap.size, i + 2, none⟩ := rfl
    have hKO : Hid (Keep2 (w.heap.size + 1) W ((W.setCell ⟨w.heap.size, i, none⟩ (.int .u8 ((x.getD (i + 2) 0).toNat : Int))).setCell ⟨w.heap.size, i + 2, none⟩ (.int .u8 ((x.getD i 0).toNat : Int)))) := Lib.hid
      ⟨(keepB_set _ _ _ (by omega)).trans (keepB_set _ _ _ (by omega)), (keepB_set _ _ _ (by omega)).trans (keepB_set _ _ _ (by omega))⟩
    have hz3 : (2 : Int) < (z : Int) := by omega
    have hz30 : (0 : Int) < (z : Int) := by omega
    have hz31 : 0 < z := by omega
    clear hr hr1 hr2 hml
    have HLF := Lib.hid hlf
    clear hlf
    generalize ((x.getD i 0).toNat : Int) = v0 at *
    generalize ((x.getD (i + 2) 0).toNat : Int) = v2 at *
    gi_wp2
    refine region_round rfl (notDefer_all (by kernel_rfl)) (by kernel_rfl) ?_
    refine wpAnyIn_take (i := 0) (v := ?_) rfl rfl (by kernel_rfl) (by kernel_rfl) (by kernel_rfl) (fun _ _ _ h => h) ⟨.inl ⟨by kernel_rfl, fun ww => ?_⟩, fun ww => rfl⟩ ?_
    rotate_left
    · first | (go_simp; done) | (go_simp; with_reducible rfl)
    simp only [Act.put, List.setIfInBounds_toArray, List.set_cons_zero, List.set_cons_succ]
    refine wpAnyIn_take (i := 1) (v := ?_) rfl rfl (by kernel_rfl) (by kernel_rfl) (by kernel_rfl) (fun _ _ _ h => h) ⟨.inl ⟨by kernel_rfl, fun ww => ?_⟩, fun ww => rfl⟩ ?_
    rotate_left
    · first | (go_simp; done) | (go_simp; with_reducible rfl)
    simp only [Act.put, List.setIfInBounds_toArray, List.set_cons_zero, List.set_cons_succ]
    refine wpAnyIn_take (i := 2) (v := ?_) rfl rfl (by kernel_rfl) (by kernel_rfl) (by kernel_rfl) (fun _ _ _ h => h) ⟨.inl ⟨by kernel_rfl, fun ww => ?_⟩, fun ww => rfl⟩ ?_
    rotate_left
    · first | (go_simp; done) | (go_simp; with_reducible rfl)
    simp only [Act.put, List.setIfInBounds_toArray, List.set_cons_zero, List.set_cons_succ]
    refine wpAnyIn_take (i := 5) (v := ?_) rfl rfl (by kernel_rfl) (by kernel_rfl) (by kernel_rfl) (fun _ _ _ h => h) ⟨.inl ⟨by kernel_rfl, fun ww => ?_⟩, fun ww => rfl⟩ ?_
    rotate_left
    · first | (go_simp; done) | (go_simp; with_reducible rfl)
    simp only [Act.put, List.setIfInBounds_toArray, List.set_cons_zero, List.set_cons_succ]
    refine wpAnyIn_take (i := 3) (v := ?_) rfl rfl (by kernel_rfl) (by kernel_rfl) (by kernel_rfl) (fun _ _ _ h => h) ⟨.inl ⟨by kernel_rfl, fun ww => ?_⟩, fun ww => rfl⟩ ?_
    rotate_left
    · first | (go_simp; done) | (go_simp; with_reducible rfl)
    simp only [Act.put, List.setIfInBounds_toArray, List.set_cons_zero, List.set_cons_succ]
    refine wpAnyIn_take (i := 6) (v := ?_) rfl rfl (by kernel_rfl) (by kernel_rfl) (by kernel_rfl) (fun _ _ _ h => h) ⟨.inl ⟨by kernel_rfl, fun ww => ?_⟩, fun ww => rfl⟩ ?_
    rotate_left
    · first | (go_simp; done) | (go_simp; with_reducible rfl)
    simp only [Act.put, List.setIfInBounds_toArray, List.set_cons_zero, List.set_cons_succ]
    refine wpAnyIn_ready (rs := [4, 7]) (by kernel_rfl) (by simp) ?_
    refine AllReadyIn.cons rfl (fun K hK => ?_) (AllReadyIn.cons rfl (fun K hK => ?_) AllReadyIn.nil)
    · go_simp
      refine hK _ _ ?_
      clear hK K
      refine wpAnyIn_ready (rs := [7]) (by kernel_rfl) (by simp) ?_
      refine AllReadyIn.cons rfl (fun K hK => ?_) AllReadyIn.nil
      go_simp
      refine hK _ _ ?_
      clear hK K
      refine wpAnyIn_take (i := 8) (v := ?_) rfl rfl (by kernel_rfl) (by kernel_rfl) (by kernel_rfl) (fun _ _ _ h => h) ⟨.inl ⟨by kernel_rfl, fun ww => ?_⟩, fun ww => rfl⟩ ?_
      rotate_left
      · first | (go_simp; done) | (go_simp; with_reducible rfl)
      simp only [Act.put, List.setIfInBounds_toArray, List.set_cons_zero, List.set_cons_succ]
      refine wpAnyIn_ready (rs := [9]) (by kernel_rfl) (by simp) ?_
      refine AllReadyIn.cons rfl (fun K hK => ?_) AllReadyIn.nil
      go_simp
      refine hK _ _ ?_
      clear hK K
      refine wpAnyIn_take (i := 10) (v := ?_) rfl rfl (by kernel_rfl) (by kernel_rfl) (by kernel_rfl) (fun _ _ _ h => h) ⟨.inl ⟨by kernel_rfl, fun ww => ?_⟩, fun ww => rfl⟩ ?_
      rotate_left
      · first | (go_simp; done) | (go_simp; with_reducible rfl)
      simp only [Act.put, List.setIfInBounds_toArray, List.set_cons_zero, List.set_cons_succ]
      refine wpAnyIn_ready (rs := [11]) (by kernel_rfl) (by simp) ?_
      refine AllReadyIn.cons rfl (fun K hK => ?_) AllReadyIn.nil
      go_simp
      refine hK _ _ ?_
      clear hK K
      refine wpAnyIn_done (by kernel_rfl) ?_ _
      exact ⟨(((KeepsOthers.setCell _ _ _).trans (KeepsOthers.setCell _ _ _)).trans (KeepsOthers.drew _)).from _, hKO.out, by rw [hP.out]; exact HR2.out.drew, ((hb.setCell (p := ⟨w.heap.size, i, none⟩) (Nat.le_refl _) _).setCell (p := ⟨w.heap.size, i + 2, none⟩) (Nat.le_refl _) _).drew, by simpa using hsz⟩
    · go_simp
      refine hK _ _ ?_
      clear hK K
      refine wpAnyIn_ready (rs := [4]) (by kernel_rfl) (by simp) ?_
      refine AllReadyIn.cons rfl (fun K hK => ?_) AllReadyIn.nil
      go_simp
      refine hK _ _ ?_
      clear hK K
      refine wpAnyIn_take (i := 8) (v := ?_) rfl rfl (by kernel_rfl) (by kernel_rfl) (by kernel_rfl) (fun _ _ _ h => h) ⟨.inl ⟨by kernel_rfl, fun ww => ?_⟩, fun ww => rfl⟩ ?_
      rotate_left
      · first | (go_simp; done) | (go_simp; with_reducible rfl)
      simp only [Act.put, List.setIfInBounds_toArray, List.set_cons_zero, List.set_cons_succ]
      refine wpAnyIn_ready (rs := [9]) (by kernel_rfl) (by simp) ?_
      refine AllReadyIn.cons rfl (fun K hK => ?_) AllReadyIn.nil
      go_simp
      refine hK _ _ ?_
      clear hK K
      refine wpAnyIn_take (i := 10) (v := ?_) rfl rfl (by kernel_rfl) (by kernel_rfl) (by kernel_rfl) (fun _ _ _ h => h) ⟨.inl ⟨by kernel_rfl, fun ww => ?_⟩, fun ww => rfl⟩ ?_
      rotate_left
      · first | (go_simp; done) | (go_simp; with_reducible rfl)
      simp only [Act.put, List.setIfInBounds_toArray, List.set_cons_zero, List.set_cons_succ]
      refine wpAnyIn_ready (rs := [11]) (by kernel_rfl) (by simp) ?_
      refine AllReadyIn.cons rfl (fun K hK => ?_) AllReadyIn.nil
      go_simp
      refine hK _ _ ?_
      clear hK K
      refine wpAnyIn_done (by kernel_rfl) ?_ _
      exact ⟨(((KeepsOthers.setCell _ _ _).trans (KeepsOthers.setCell _ _ _)).trans (KeepsOthers.drew _)).from _, hKO.out, by rw [hP.out]; exact HR2.out.drew, ((hb.setCell (p := ⟨w.heap.size, i, none⟩) (Nat.le_refl _) _).setCell (p := ⟨w.heap.size, i + 2, none⟩) (Nat.le_refl _) _).drew, by simpa using hsz⟩
  case done =>
    rintro D ys W hD hS ⟨hr, hb, hsz⟩ hKD
    rw [hS] at hr
    have hlf : (foldT z s (List.range m)).length = n := by rw [foldT_len, HN.out]
    have kc := hr.text (P := Try.prog) (fun d hd => by obtain ⟨x, _, rfl⟩ := List.mem_map.1 hd; exact x.toNat_lt) n cap (by simp [hlf]) 22 9 5 Try.underlying22 Try.underlying5 Try.underlying9
    have e9 : (((foldT z s (List.range m)).map UInt8.toNat).map UInt8.ofNat) = foldT z s (List.range m) := by
      rw [List.map_map]
      have : (UInt8.ofNat ∘ UInt8.toNat) = id := by funext x; simp
      rw [this, List.map_id]
    rw [e9] at kc
    clear e9 hlf hr hS
    have HB := Lib.hid hb
    clear hb
    gi_wp2
    show LeavesInM _ _ _ _ _ _ _ _ _
    refine leaves_marks (B := w.heap.size) _ W ⟨D, rfl, by omega, hKD, fun d' h => by simp at h, trivial⟩ fun w' hb' hc => ?_
    exact ⟨.string ⟨(foldT z s (List.range m)).toArray⟩, by simp [results, Try.results33, go_sem], FIN.out _ (HB.out.trans hb')⟩
  case stop => rintro D c' pre W hD hS h; exact h.elim
end Go.Proofs.Ytfkkppagbhllgaa
