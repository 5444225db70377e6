/-
  THE STEPS OF scan.Row.
-/
import Derived.Test.YtkdffcoofijhkaaDoorScanWalkE
import Derived.Test.YtkdffcoofijhkaaDoorNumWalkA
set_option linter.unusedVariables false
set_option linter.unusedSimpArgs false
set_option maxRecDepth 8000
namespace Go.Proofs.YtkdffcoofijhkaaDoor
open Go.RowKit

def strV (l : List UInt8) : Value := .string ⟨l.toArray⟩
/-- The slice '.slice A n c' reads as the texts ls; its block lies below B. -/
structure Strs (w : World) (B : Nat) (A : Option Addr) (n : Nat) (ls : List (List UInt8)) : Prop where
  rd : Rd w B 1 A n (ls.map strV)
  len : n ≤ 9223372036854775807
theorem Strs.length {w : World} {B n : Nat} {A : Option Addr} {ls : List (List UInt8)} (h : Strs w B A n ls) : ls.length = n := by have := h.rd.1; rw [List.length_map] at this; omega
theorem Strs.get {w : World} {B n : Nat} {A : Option Addr} {ls : List (List UInt8)} (h : Strs w B A n ls) {k : Nat} (hk : k < n) : ∃ ad l, A = some ad ∧ ad.block < B ∧ ls[k]? = some l ∧ l ∈ ls ∧ w.cell? (ad.add k) = some (.string ⟨l.toArray⟩) := by
  obtain ⟨ad, u, e, hb, hu, hc⟩ := h.rd.at1 hk
  rw [List.getElem?_map] at hu
  cases hx : ls[k]? with
  | none => simp [hx] at hu
  | some x =>
    simp only [hx, Option.map_some, Option.some.injEq] at hu
    subst hu
    exact ⟨ad, x, e, hb, rfl, List.mem_of_getElem? hx, hc⟩
theorem Strs.below {w w' : World} {B n : Nat} {A : Option Addr} {ls : List (List UInt8)} (h : Strs w B A n ls) {b : Nat} (hb : Below b w w') (hB : B ≤ b) : Strs w' B A n ls := ⟨h.rd.below hb hB, h.len⟩
theorem Strs.more {w : World} {B B' n : Nat} {A : Option Addr} {ls : List (List UInt8)} (h : Strs w B A n ls) (hB : B ≤ B') : Strs w B' A n ls := ⟨h.rd.more hB, h.len⟩

def rowS : List (List UInt8) → List Int × Int
  | [] => ([], 0)
  | l :: r => if (parseS l).2 = 0 then (if (rowS r).2 = 0 then ((parseS l).1 :: (rowS r).1, 0) else ([], (rowS r).2)) else ([], (parseS l).2)
theorem rowS_ok : ∀ ls : List (List UInt8), (∀ l ∈ ls, (parseS l).2 = 0) → rowS ls = (ls.map fun l => (parseS l).1, 0)
  | [], _ => rfl
  | l :: r, h => by
    have h1 := rowS_ok r (fun x hx => h x (List.mem_cons_of_mem _ hx))
    unfold rowS
    rw [if_pos (h l List.mem_cons_self), h1]
    rfl
theorem rowS_err : ∀ (a : List (List UInt8)) (l : List UInt8) (r : List (List UInt8)), (∀ x ∈ a, (parseS x).2 = 0) → (parseS l).2 ≠ 0 → rowS (a ++ l :: r) = ([], (parseS l).2)
  | [], l, r, _, h => by simp only [List.nil_append, rowS, if_neg h]
  | x :: a, l, r, ha, h => by
    have h1 := rowS_err a l r (fun y hy => ha y (List.mem_cons_of_mem _ hy)) h
    simp only [List.cons_append, rowS, if_pos (ha x List.mem_cons_self), h1, if_neg h]
theorem split_at {α : Type} (l : List α) (k : Nat) (x : α) (h : l[k]? = some x) : l = l.take k ++ x :: l.drop (k + 1) := by
  have := drop_cons' l k x h
  rw [← this, List.take_append_drop]

set_option maxHeartbeats 1600000 in
theorem row_any (B : Nat) (A : Option Addr) (n c : Nat) (ls : List (List UInt8)) (w : World) (h : Strs w B A n ls) (hB : B ≤ w.heap.size) (hn : n ≤ 1000) (hl : ∀ l ∈ ls, l.length ≤ 100000) (hE : Env w) :
    Calls Tryd.prog 21 #[.slice A n c] w (ListRes w 3 1 (rowS ls).1.length (cellsI (rowS ls).1) (rowS ls).2) := by
  obtain ⟨i0, hi0, hz0, hz1, hz2⟩ := info_parts size_int'
  have hlen := Lib.hid h.length
  have H := Lib.hid h; clear h
  have HE := Lib.hid hE; clear hE
  have HL := Lib.hid hl; clear hl
  obtain ⟨R, hR⟩ : ∃ R, R = rowS ls := ⟨_, rfl⟩
  rw [← hR]
  have HR := Lib.hid hR; clear hR
  have FIN : Hid (∀ (v : Value) w', v = .tuple #[.slice none 0 0, .int .i64 R.2] → R.1 = [] → Below w.heap.size w w' → ListRes w 3 1 R.1.length (cellsI R.1) R.2 (.returned v) w') := Lib.hid (fun v w' e e2 hb => by rw [e2]; exact ListRes.none_ e hb)
  have FIN2 : Hid (∀ A' c' w', R.2 = 0 → R.1.length = n → w'.ownsRow w.heap.size 3 1 (.slice A' n c') n (cellsI R.1) → Below w.heap.size w w' → ListRes w 3 1 R.1.length (cellsI R.1) R.2 (.returned (.tuple #[.slice A' n c', .int .i64 0])) w') := Lib.hid (fun A' c' w' e e2 h1 hb => by rw [e, e2]; exact ⟨A', c', rfl, h1, hb⟩)
  generalize hQ : ListRes w 3 1 R.1.length (cellsI R.1) R.2 = Qp at FIN FIN2 ⊢
  clear hQ
  go_enter Tryd.func21, Tryd.ntmps21
  go_wp2_with fail
  go_loopw [4, 11] (fun v i wr => ∃ (k : Nat) (out : List Int), k ≤ n ∧ i = .int .i64 k ∧ wr.ownsRow w.heap.size 3 1 v k (cellsI out) ∧ Hid (out = (ls.take k).map fun l => (parseS l).1) ∧ Hid (∀ l ∈ ls.take k, (parseS l).2 = 0) ∧ Hid (Below w.heap.size w wr)) (fun _ i _ => n - (intOf i).toNat)
  case atStart => exact ⟨0, [], by omega, rfl, World.ownsRow_nil _ _ _ _, Lib.hid rfl, Lib.hid (by simp), Lib.hid (Below.refl _ _)⟩
  case round =>
    obtain ⟨k, out, hk, rfl, hown, hout, hall, hB0⟩ := hrel
    by_cases hlt : k < n
    · have t0 : decide ((k : Int) < (n : Int)) = true := decide_eq_true (by omega)
      obtain ⟨ad, l, rfl, hb, hx, hm, hc⟩ := (H.out.below hB0.out hB).get hlt
      have HX := Lib.hid hx; clear hx
      have hlen2 := HL.out l hm
      obtain ⟨v, er, hp⟩ : ∃ v e, parseS l = (v, e) := ⟨_, _, rfl⟩
      have K := Lib.hid (fun W hW => parse_any l W hlen2 hW)
      rw [hp] at K
      unfold NE2 at K
      have HP := Lib.hid hp
      clear hm hlen2 hp
      go_wp2_with fail
      refine (K.out _ (HE.out.on hB0.out)).mono ?_
      clear K hc
      rintro e w1 ⟨rfl, hb1⟩
      have HB := Lib.hid (hB0.out.trans (hb1.mono hB0.out.size))
      by_cases he : er = 0
      · subst he
        have hown2 := own_below hown hb1 (Nat.le_refl _)
        have hzy := HB.out.size
        have hal2 : Hid (∀ l ∈ ls.take (k + 1), (parseS l).2 = 0) := Lib.hid (by
          rw [take_snoc' _ _ _ HX.out]
          intro x hx
          rcases List.mem_append.1 hx with hx | hx
          · exact hall.out x hx
          · obtain rfl := List.mem_singleton.1 hx; rw [HP.out])
        have hou2 : Hid (out ++ [v] = (ls.take (k + 1)).map fun l => (parseS l).1) := Lib.hid (by rw [take_snoc' _ _ _ HX.out, hout.out]; simp [HP.out])
        have hbk4 : ∀ j, u4.ownBlock = some j → w.heap.size ≤ j := fun j hj => (hown.lt j hj).1
        clear hb1 hown
        go_wp2_with (at_builtin; refine wpList_append_lies _ rfl (.tmp 23) (.tmp 25) _ rfl w.heap.size 3 i0 _ 1 8 Tryd.underlying40 hi0 hz0 hz1 hz2 rfl (by decide) _ k (cellsI out) rfl (hown2.alloc _) ⟨w1.heap.size, 0, none⟩ 1 1 [.int .i64 _] rfl rfl (World.news_of_block (heap_alloc_new _ _)) (by simp [Value.oneCell']) (by decide) (by unfold maxLen; omega) (by omega) (by simp; omega) _ rfl ?_; intro g4 cap4 w4 hown4 hgr4 hat4 hlt4)
        go_roundw
        case rel =>
          refine ⟨k + 1, out ++ [v], by omega, by go_num, by simpa [cellsI] using hown4, hou2, hal2, Lib.hid ?_⟩
          exact (HB.out.alloc (by omega) _).grown hgr4 (by simp; omega) (fun j hj => by have := hbk4 j hj; omega)
        case measure => simp only [intOf]; omega
      · have hne : Hid (R = ([], er)) := Lib.hid (by
          rw [HR.out, split_at ls k l HX.out, rowS_err _ _ _ hall.out (by rw [HP.out]; exact he), HP.out])
        have t1 : (er != 0) = true := by simpa using he
        have t2 : (er == 0) = false := by simpa using he
        clear he hb1 hown
        go_wp2_with fail
        first
          | exact FIN.out _ _ (by rw [hne.out]; rfl) (by rw [hne.out]) HB.out
          | (go_ret2; exact FIN.out _ _ (by rw [hne.out]; rfl) (by rw [hne.out]) HB.out)
    · have t0 : decide ((k : Int) < (n : Int)) = false := decide_eq_false (by omega)
      obtain rfl : n = k := by omega
      have htk : ls.take n = ls := List.take_of_length_le (by rw [hlen.out]; omega)
      have hR2 : Hid (R = (out, 0)) := Lib.hid (by
        have h1 := hall.out
        have h2 := hout.out
        rw [htk] at h1 h2
        rw [HR.out, rowS_ok ls h1, h2])
      have hol : Hid (out.length = n) := Lib.hid (by have := hown.1; rw [cellsI_length] at this; omega)
      clear htk
      obtain ⟨A', c', rfl⟩ := own_shape hown
      have HOWN := Lib.hid hown; clear hown
      go_wp2_with fail
      first
        | exact FIN2.out _ _ _ (by rw [hR2.out]) (by rw [hR2.out]; exact hol.out) (by rw [hR2.out]; exact HOWN.out) hB0.out
        | (go_ret2; exact FIN2.out _ _ _ (by rw [hR2.out]) (by rw [hR2.out]; exact hol.out) (by rw [hR2.out]; exact HOWN.out) hB0.out)
end Go.Proofs.YtkdffcoofijhkaaDoor
