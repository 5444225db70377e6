/-
  GET's MEMORY in its loop.
-/
import Derived.Test.YtfkkppagbhllgaaTgaWalkM
import Derived.Test.YtfkkppagbhllgaaTgaQ
import Derived.Lib.BufferWrite
set_option linter.unusedVariables false
set_option linter.unusedSimpArgs false
set_option maxRecDepth 100000
namespace Go.Proofs.Ytfkkppagbhllgaa
open Go.RowKit

theorem getD_take (s : List UInt8) (i : Nat) (h : i < 18) : (s.take 18).getD i 0 = s.getD i 0 := by
  rw [List.getD_eq_getElem?_getD, List.getD_eq_getElem?_getD, List.getElem?_take, if_pos h]
theorem u8_eq (c : UInt8) (k : Nat) (hk : k < 256) : (((c.toNat : Nat) : Int) == (k : Int)) = (c == UInt8.ofNat k) := by
  rw [Bool.eq_iff_iff]
  simp only [beq_iff_eq]
  constructor
  · intro h
    apply UInt8.toNat.inj
    rw [u8_of k hk]; omega
  · rintro rfl
    rw [u8_of k hk]
/-! ### Get's memory in its loop -/
theorem slot_grown {W W' : World} {g r : Nat} {cs : List Value} (h : SlotN W g cs) (hg : W.grownBy W' (some r)) (hne : g ≠ r) (hlt : g < W.heap.size) : SlotN W' g cs := by
  have k := hg.block g hlt (fun e => hne (by injection e))
  refine ⟨fun j u hj => ?_, fun j => ?_⟩
  · have := h.c j u hj
    simp only [World.cell?, k] at this ⊢
    exact this
  · have := h.f j
    simp only [World.frozen?, k] at this ⊢
    exact this
theorem GetAt.grownBy {w W W' : World} {xs : List Value} {e : Int} {rest : List UInt8} {r : Nat} (h : GetAt w W xs e rest) (hg : W.grownBy W' (some r)) (hr : w.heap.size + 3 ≤ r) : GetAt w W' xs e rest := by
  have := h.size
  exact ⟨slot_grown h.m hg (by omega) (by omega), slot_grown h.e hg (by omega) (by omega), slot_grown h.r hg (by omega) (by omega), h.below.grown hg h.below.size (fun k e => by injection e with e; omega), Nat.le_trans h.size hg.size⟩
theorem GetAt.read {w W W' : World} {xs : List Value} {e : Int} {rest rest' : List UInt8} (h : GetAt w W xs e rest) (hg : W.grownBy W' (some (w.heap.size + 1 + 1))) (hs : SlotN W' (w.heap.size + 1 + 1) [strV rest']) : GetAt w W' xs e rest' := by
  have := h.size
  exact ⟨slot_grown h.m hg (by omega) (by omega), slot_grown h.e hg (by omega) (by omega), hs, h.below.grown hg h.below.size (fun k e => by injection e with e; omega), Nat.le_trans h.size hg.size⟩
structure GtAt (w W : World) (D g co base : Nat) (p q z : Nat) (tp : Bool) (n : Nat) (X rest : List UInt8) : Prop where
  a : GetAt w W [.int .i64 (p : Int), .int .i64 (q : Int), .int .i64 ((8 * z : Nat) : Int), .slice (some ⟨D, 0, none⟩) n n] 0 rest
  d : W.heap[D]? = some (.cells (Lib.byteCells X).toArray 5 (0, 0))
  r : W.ownsRow base 3 1 (.slice (some ⟨g, 0, none⟩) q co) q (cellsI (ordL q tp))
  l1 : w.heap.size + 3 ≤ D
  l2 : D < base
  hg : base ≤ g
section
variable {w W W' : World} {D g co base p q z n : Nat} {tp : Bool} {X rest : List UInt8}
theorem GtAt.grown (h : GtAt w W D g co base p q z tp n X rest) (hb : Below W.heap.size W W') : GtAt w W' D g co base p q z tp n X rest :=
  ⟨h.a.grown hb, by rw [hb.block D (Array.getElem?_eq_some_iff.1 h.d).1]; exact h.d, own_below h.r hb (Nat.le_refl _), h.l1, h.l2, h.hg⟩
theorem GtAt.read {rest' : List UInt8} (h : GtAt w W D g co base p q z tp n X rest) (hg : W.grownBy W' (some (w.heap.size + 1 + 1))) (hs : SlotN W' (w.heap.size + 1 + 1) [strV rest']) : GtAt w W' D g co base p q z tp n X rest' := by
  have := h.l1
  have := h.l2
  have := h.hg
  refine ⟨h.a.read hg hs, ?_, h.r.kept hg (.inr ?_), h.l1, h.l2, h.hg⟩
  · rw [hg.block D (Array.getElem?_eq_some_iff.1 h.d).1 (fun e => by injection e with e; omega)]; exact h.d
  · simp [Value.ownBlock]; omega
theorem GtAt.took (h : GtAt w W D g co base p q z tp n X rest) (rest' : List UInt8) : GtAt w (W.setCell ⟨w.heap.size + 1 + 1, 0, none⟩ (strV rest')) D g co base p q z tp n X rest' := by
  refine h.read (grown_setCell (World.grownBy.refl W _) _) (h.a.r.one _)
theorem GtAt.laid (h : GtAt w W D g co base p q z tp n X rest) (Y : List UInt8) : GtAt w (W.setRow D (Lib.byteCells Y).toArray) D g co base p q z tp n Y rest := by
  have := h.l1
  have := h.l2
  have := h.hg
  have hg : W.grownBy (W.setRow D (Lib.byteCells Y).toArray) (some D) := ⟨rfl, rfl, rfl, by simp [World.setRow], fun k _ hk => setRow_other W D k _ (fun e => hk (by rw [e]))⟩
  refine ⟨h.a.grownBy hg h.l1, setRow_heap W D _ _ _ _ h.d, h.r.kept hg (.inr ?_), h.l1, h.l2, h.hg⟩
  simp [Value.ownBlock]; omega
end
theorem copy_at (W : World) (D o k : Nat) (X T : List UInt8) (ty : TypeId) (hd : W.heap[D]? = some (.cells (Lib.byteCells X).toArray 5 (0, 0))) (h1 : T.length ≤ k) (h2 : o + T.length ≤ X.length) :
    (Builtin.copy_ #[22, 9] ty #[.slice (some ⟨D, o, none⟩) k k, .string ⟨T.toArray⟩]).run Try.prog W = .ok (goInt T.length) (W.setRow D (Lib.byteCells (X.take o ++ T ++ X.drop (o + T.length))).toArray) := by
  have hsz : (⟨T.toArray⟩ : ByteArray).size = T.length := by simp [ByteArray.size]
  have := Lib.run_copy_row_string (P := Try.prog) W 22 9 ty 5 D o k k ⟨T.toArray⟩ (Lib.byteCells X).toArray 5 Try.underlying22 (by kernel_rfl) hd (by rw [hsz]; exact h1) (by rw [hsz]; simp [Lib.byteCells]; exact h2)
  rw [hsz] at this
  rw [this]
  simp [Lib.byteCells]
theorem made_bytes (n : Nat) : madeCells #[.int .u8 0] n = (Lib.byteCells (List.replicate n 0)).toArray := by
  apply Array.ext'
  refine List.ext_getElem? fun j => ?_
  by_cases hj : j < n
  · simp [madeCells, Lib.byteCells, hj, Nat.mod_one]
  · rw [List.getElem?_eq_none (by simp [size_madeCells]; omega), List.getElem?_eq_none (by simp [Lib.byteCells]; omega)]
theorem unpack_left {z : Nat} : ∀ (need : Nat) (s : List UInt8) (o : List UInt8 × List UInt8), unpackT z need s = some o → o.2.length ≤ s.length
  | need, s, o, h => by
    by_cases h0 : need = 0
    · subst h0
      rw [unpackT_zero] at h
      cases h; simp
    · cases s with
      | nil => rw [unpackT_nil h0] at h; cases h
      | cons c t =>
        rw [unpackT_cons _ _ _ _ h0] at h
        split at h
        · cases h
        · split at h
          · split at h
            · cases h
            · cases hu : unpackT z (need - (c.toNat % 128 + 1)) (t.drop z) with
              | none => rw [hu] at h; cases h
              | some q =>
                rw [hu] at h
                simp only [Option.map_some, Option.some.injEq] at h
                subst h
                have ih := unpack_left _ _ _ hu
                simp only [List.length_drop, List.length_cons] at *
                omega
          · split at h
            · cases h
            · cases hu : unpackT z (need - (c.toNat % 128 + 1)) (t.drop ((c.toNat % 128 + 1) * z)) with
              | none => rw [hu] at h; cases h
              | some q =>
                rw [hu] at h
                simp only [Option.map_some, Option.some.injEq] at h
                subst h
                have ih := unpack_left _ _ _ hu
                simp only [List.length_drop, List.length_cons] at *
                omega
termination_by need => need
theorem byts_at {W : World} {D n : Nat} {X : List UInt8} (hd : W.heap[D]? = some (.cells (Lib.byteCells X).toArray 5 (0, 0))) (hl : X.length = n) (hn : n ≤ 9223372036854775807) : Byts W W.heap.size (some ⟨D, 0, none⟩) n X := by
  refine ⟨⟨by rw [bytes_len]; omega, fun _ => ⟨_, rfl, (Array.getElem?_eq_some_iff.1 hd).1, fun j u hj => ?_⟩⟩, hn⟩
  rw [addr_lit]
  simp only [World.cell?, hd]
  simpa using hj
/-- what Get's ending needs -/
structure GetE (w W : World) (xs : List Value) (e : Int) : Prop where
  m : SlotN W w.heap.size xs
  e : SlotN W (w.heap.size + 1) [.int .i64 e]
  below : Below w.heap.size w W
section
variable {w W W' : World} {xs : List Value} {e : Int} {rest : List UInt8}
theorem GetAt.weak (h : GetAt w W xs e rest) : GetE w W xs e := ⟨h.m, h.e, h.below⟩
theorem GetAt.threw (h : GetAt w W xs e rest) (hg : W.grownBy W' (some (w.heap.size + 1 + 1))) : GetE w W' xs e := by
  have := h.size
  exact ⟨slot_grown h.m hg (by omega) (by omega), slot_grown h.e hg (by omega) (by omega), h.below.grown hg h.below.size (fun k e => by injection e with e; omega)⟩
theorem GetE.setM (h : GetE w W xs e) (k : Nat) (hk : k < xs.length) (v : Value) : GetE w (W.setCell ⟨w.heap.size, k, none⟩ v) (xs.set k v) e :=
  ⟨h.m.setAt k hk v, h.e.otherJ _ _ (by omega) _, h.below.setCell (p := ⟨w.heap.size, k, none⟩) (Nat.le_refl _) _⟩
theorem GetE.setE (h : GetE w W xs e) (e' : Int) : GetE w (W.setCell ⟨w.heap.size + 1, 0, none⟩ (.int .i64 e')) xs e' :=
  ⟨h.m.other _ (by omega) _, h.e.one _, h.below.setCell (p := ⟨w.heap.size + 1, 0, none⟩) (by simp) _⟩
end
theorem GtAt.start {w W W' : World} {D g co p q z n : Nat} {tp : Bool} {X rest : List UInt8} (h : GetAt w W [.int .i64 (p : Int), .int .i64 (q : Int), .int .i64 ((8 * z : Nat) : Int), .slice (some ⟨D, 0, none⟩) n n] 0 rest)
    (hd : W.heap[D]? = some (.cells (Lib.byteCells X).toArray 5 (0, 0))) (hl : w.heap.size + 3 ≤ D) (hb : Below W.heap.size W W') (hr : W'.ownsRow W.heap.size 3 1 (.slice (some ⟨g, 0, none⟩) q co) q (cellsI (ordL q tp))) (hg : W.heap.size ≤ g) : GtAt w W' D g co W.heap.size p q z tp n X rest :=
  ⟨h.grown hb, by rw [hb.block D (Array.getElem?_eq_some_iff.1 hd).1]; exact hd, hr, hl, (Array.getElem?_eq_some_iff.1 hd).1, hg⟩
end Go.Proofs.Ytfkkppagbhllgaa
