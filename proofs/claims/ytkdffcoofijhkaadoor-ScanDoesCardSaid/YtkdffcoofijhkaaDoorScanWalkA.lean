/-
  THE STEPS OF scan.signed, plain.
-/
import Derived.Test.YtkdffcoofijhkaaDoorStr
import Derived.Test.YtkdffcoofijhkaaDoorScanL
set_option linter.unusedVariables false
set_option linter.unusedSimpArgs false
set_option maxRecDepth 4000
namespace Go.Proofs.YtkdffcoofijhkaaDoor
open Go.RowKit

theorem cutprefix_any (l : List UInt8) (w : World) : Calls Tryd.prog 63 #[.string ⟨l.toArray⟩, .string ⟨#[45]⟩] w fun e w' =>
    e = .returned (.tuple #[.string ⟨(Lib.trimPrefix l [45]).toArray⟩, .bool (Lib.hasPrefix l [45])]) ∧ w = w' :=
  (Tryd.strings_CutPrefix ⟨l.toArray⟩ ⟨#[45]⟩ w).mono fun _ _ h => ⟨h.1, h.2.symm⟩
theorem trimprefix_any (l : List UInt8) (c : UInt8) (w : World) : Calls Tryd.prog 53 #[.string ⟨l.toArray⟩, .string ⟨#[c]⟩] w fun e w' =>
    e = .returned (.string ⟨(Lib.trimPrefix l [c]).toArray⟩) ∧ w = w' :=
  (Tryd.strings_TrimPrefix ⟨l.toArray⟩ ⟨#[c]⟩ w).mono fun _ _ h => ⟨h.1, h.2.symm⟩

theorem signed_any (l : List UInt8) (w : World) : Calls Tryd.prog 42 #[.string ⟨l.toArray⟩] w fun e w' =>
    e = .returned (.tuple #[.string ⟨(signedS l).1.toArray⟩, .bool (signedS l).2]) ∧ w = w' := by
  have K1 := Lib.hid (fun W => cutprefix_any l W)
  have K2 := Lib.hid (fun W => trimprefix_any l 43 W)
  cases h : Lib.hasPrefix l [45] with
  | true =>
    have e : signedS l = (Lib.trimPrefix l [45], true) := by unfold signedS; rw [h]; rfl
    rw [e]
    rw [h] at K1
    clear h e
    generalize Lib.trimPrefix l [45] = t at *
    go_enter Tryd.func42, Tryd.ntmps42
    go_wp2_with fail
    refine (K1.out _).mono ?_
    clear K1
    rintro e w' ⟨rfl, rfl⟩
    go_wp2_with fail
    go_ret2
    exact ⟨rfl, rfl⟩
  | false =>
    have e : signedS l = (Lib.trimPrefix l [43], false) := by unfold signedS; rw [h]; rfl
    rw [e]
    rw [h] at K1
    clear h e
    generalize Lib.trimPrefix l [45] = t at *
    generalize Lib.trimPrefix l [43] = u at *
    go_enter Tryd.func42, Tryd.ntmps42
    go_wp2_with fail
    refine (K1.out _).mono ?_
    clear K1
    rintro e w' ⟨rfl, rfl⟩
    go_wp2_with fail
    refine (K2.out _).mono ?_
    clear K2
    rintro e w' ⟨rfl, rfl⟩
    go_wp2_with fail
    go_ret2
    exact ⟨rfl, rfl⟩

theorem get_list (l : List UInt8) (k : Nat) (h : k < l.length) (h' : k < (⟨l.toArray⟩ : ByteArray).size) : (⟨l.toArray⟩ : ByteArray)[k]'h' = l[k] := rfl

set_option maxHeartbeats 800000 in
theorem plain_any (l : List UInt8) (w : World) (hl : l.length ≤ 4611686018427387904) : Calls Tryd.prog 44 #[.string ⟨l.toArray⟩] w fun e w' =>
    e = .returned (.bool (l.all isDig)) ∧ Below w.heap.size w w' := by
  have hu : Tryd.prog.underlying 9 = some .string := Tryd.underlying9
  obtain ⟨r, hr⟩ : ∃ r, l.all isDig = r := ⟨_, rfl⟩
  rw [hr]
  have HR := Lib.hid hr; clear hr
  go_enter Tryd.func44, Tryd.ntmps44
  go_wp2_with fail
  go_loopw [] (fun wr => ∃ k : Nat, k ≤ l.length ∧ wr = w.iter ⟨l.toArray⟩ k ∧ Hid ((l.take k).all isDig = true)) (fun wr => l.length - wr.iterPos w.heap.size)
  case atStart => exact ⟨0, Nat.zero_le _, rfl, Lib.hid rfl⟩
  case round =>
    obtain ⟨k, hk, rfl, ha⟩ := hrel
    have hB : Below w.heap.size w (w.iter ⟨l.toArray⟩ k) := (Below.refl _ _).alloc (Nat.le_refl _) _
    by_cases hlt : k < l.length
    · have hlt' : k < (⟨l.toArray⟩ : ByteArray).size := hlt
      obtain ⟨c, hc⟩ : ∃ c, c = l[k] := ⟨_, rfl⟩
      have htk : Hid ((l.take (k + 1)).all isDig = isDig c) := Lib.hid (by rw [List.take_succ_eq_append_getElem hlt, List.all_append, ha.out, ← hc]; simp)
      have hin : Hid (c ∈ l) := Lib.hid (by rw [hc]; exact List.getElem_mem hlt)
      by_cases hd : isDig c = true
      · have hd' := (isDig_iff c).1 hd
        have hnx : ∀ ty, (Instr.next (.pointer (some ⟨w.heap.size, 0, none⟩)) true ty).run Tryd.prog (w.iter ⟨l.toArray⟩ k) = .ok (.tuple #[.bool true, .int .i64 k, .int .i32 (c.toNat : Int)]) (w.iter ⟨l.toArray⟩ (k + 1)) := fun ty => by
          rw [hc]; exact run_next_ascii w ⟨l.toArray⟩ k ty hlt' (by show (l[k]).toNat < 128; rw [← hc]; omega)
        have t1 : decide ((c.toNat : Int) < 48) = false := decide_eq_false (by omega)
        have t2 : decide ((57 : Int) < (c.toNat : Int)) = false := decide_eq_false (by omega)
        have HD := Lib.hid hd; clear hd hc
        generalize hx : (c.toNat : Int) = x at *
        clear hx hd'
        go_wp2_with fail
        go_roundw
        case rel => exact ⟨k + 1, by omega, rfl, Lib.hid (by rw [htk.out, HD.out])⟩
        case measure => simp; omega
      · have hf : Hid (r = false) := Lib.hid (by
          rw [← HR.out, Bool.eq_false_iff]
          intro h9
          exact hd (List.all_eq_true.1 h9 c hin.out))
        obtain rfl := hf.out
        clear hf
        by_cases h128 : c.toNat < 128
        · have hnx : ∀ ty, (Instr.next (.pointer (some ⟨w.heap.size, 0, none⟩)) true ty).run Tryd.prog (w.iter ⟨l.toArray⟩ k) = .ok (.tuple #[.bool true, .int .i64 k, .int .i32 (c.toNat : Int)]) (w.iter ⟨l.toArray⟩ (k + 1)) := fun ty => by
            rw [hc]; exact run_next_ascii w ⟨l.toArray⟩ k ty hlt' (by show (l[k]).toNat < 128; rw [← hc]; omega)
          have hB1 : Below w.heap.size w (w.iter ⟨l.toArray⟩ (k + 1)) := (Below.refl _ _).alloc (Nat.le_refl _) _
          rw [isDig_iff] at hd
          clear hc
          by_cases h48 : c.toNat < 48
          · have t1 : decide ((c.toNat : Int) < 48) = true := decide_eq_true (by omega)
            clear hd h48
            generalize hx : (c.toNat : Int) = x at *
            clear hx
            go_wp2_with fail
            go_ret
            exact ⟨rfl, hB1⟩
          · have t1 : decide ((c.toNat : Int) < 48) = false := decide_eq_false (by omega)
            have t2 : decide ((57 : Int) < (c.toNat : Int)) = true := decide_eq_true (by omega)
            clear hd h48
            generalize hx : (c.toNat : Int) = x at *
            clear hx
            go_wp2_with fail
            go_ret
            exact ⟨rfl, hB1⟩
        · have hnx : ∀ ty, (Instr.next (.pointer (some ⟨w.heap.size, 0, none⟩)) true ty).run Tryd.prog (w.iter ⟨l.toArray⟩ k) = .ok (.tuple #[.bool true, .int .i64 k, .int .i32 (Utf8.decode ⟨l.toArray⟩ k).1]) (w.iter ⟨l.toArray⟩ (k + (Utf8.decode ⟨l.toArray⟩ k).2)) := fun ty => run_next_any w ⟨l.toArray⟩ k ty hlt'
          have hh := (decode_high ⟨l.toArray⟩ k hlt' (by show 128 ≤ (l[k]).toNat; rw [← hc]; omega)).1
          have hh2 := decode_le ⟨l.toArray⟩ k
          generalize (Utf8.decode ⟨l.toArray⟩ k).1 = x at *
          generalize (Utf8.decode ⟨l.toArray⟩ k).2 = y at *
          have hB1 : Below w.heap.size w (w.iter ⟨l.toArray⟩ (k + y)) := (Below.refl _ _).alloc (Nat.le_refl _) _
          have t1 : decide ((x : Int) < 48) = false := decide_eq_false (by omega)
          have t2 : decide ((57 : Int) < (x : Int)) = true := decide_eq_true (by omega)
          clear hc hd
          go_wp2_with fail
          go_ret
          exact ⟨rfl, hB1⟩
    · have hnx : ∀ ty, (Instr.next (.pointer (some ⟨w.heap.size, 0, none⟩)) true ty).run Tryd.prog (w.iter ⟨l.toArray⟩ k) = .ok (.tuple #[.bool false]) (w.iter ⟨l.toArray⟩ k) := fun ty => run_next_end w ⟨l.toArray⟩ k ty hlt
      have hf : Hid (r = true) := Lib.hid (by rw [← HR.out]; rw [← List.take_of_length_le (l := l) (i := k) (by omega)]; exact ha.out)
      obtain rfl := hf.out
      clear hf
      go_wp2_with fail
      go_ret
      exact ⟨rfl, hB⟩
end Go.Proofs.YtkdffcoofijhkaaDoor
