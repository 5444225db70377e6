/-
  THE STEPS OF scan.Parse.
-/
import Derived.Test.YtkdffcoofijhkaaDoorScanWalkB
import Derived.Test.YtkdffcoofijhkaaDoorScanC
set_option linter.unusedVariables false
set_option linter.unusedSimpArgs false
set_option maxRecDepth 8000
namespace Go.Proofs.YtkdffcoofijhkaaDoor
open Go.RowKit

theorem cut_any (l : List UInt8) (w : World) (hl : l.length ≤ 100000) (hE : Env w) : Calls Tryd.prog 43 #[.string ⟨l.toArray⟩, .string ⟨#[46]⟩] w fun e w' =>
    e = .returned (.tuple #[.string ⟨(Lib.cut l [46]).1.toArray⟩, .string ⟨(Lib.cut l [46]).2.1.toArray⟩, .bool (Lib.cut l [46]).2.2]) ∧ Below w.heap.size w w' := by
  obtain ⟨m, hm⟩ := hE.big
  refine (Tryd.strings_Cut ⟨l.toArray⟩ ⟨#[46]⟩ m w (by simp [ByteArray.size]; omega) hm).mono ?_
  rintro e w' ⟨rfl, n, rfl⟩
  exact ⟨rfl, ⟨rfl, rfl, rfl, Nat.le_refl _, fun _ _ => rfl⟩⟩

def parseN (b : Bool) (f k : List UInt8) : Int := if b then -(256 * (capN (numD f) : Int) + behindP k) - (if behindM k then 1 else 0) else 256 * (capN (numD f) : Int) + behindP k
theorem behindP_le (k : List UInt8) (h : k.all isDig = true) : behindP k ≤ 255 := by
  have h1 := numD_lt k h
  unfold behindP
  have h2 : 256 * numD k < 10 ^ k.length * 256 := by rw [Nat.mul_comm]; exact Nat.mul_lt_mul_of_pos_right h1 (by decide)
  have := Nat.div_lt_of_lt_mul h2
  omega
theorem parse_fin (l t f k : List UInt8) (b c : Bool) (hs : signedS l = (t, b)) (hc : Lib.cut t [46] = (f, k, c)) (hl : l.length ≤ 20) (h1 : f.all isDig = true) (h2 : k.all isDig = true) (h3 : f ++ k ≠ []) :
    parseS l = if -1048576 ≤ parseN b f k ∧ parseN b f k ≤ 1048576 then (parseN b f k, 0) else (0, 5) := by
  have ok : decOk l = true := by
    unfold decOk
    rw [hs]; simp only; rw [hc]; simp only
    rw [h1, h2, decide_eq_true hl]
    cases e : f ++ k with
    | nil => exact absurd e h3
    | cons a r => rfl
  have hz : decZ l = stepsZ b (numD (f ++ k)) k.length := by
    unfold decZ
    rw [hs]; simp only; rw [hc]
  have hp := behindP_le k h2
  unfold parseS
  rw [ok, hz, if_pos rfl]
  cases b with
  | false =>
    rw [stepsZ_pos]
    have e : parseN false f k = 256 * (capN (numD f) : Int) + behindP k := rfl
    rw [e, show (256 * numD k / 10 ^ k.length : Nat) = behindP k from rfl]
    generalize behindP k = p at *
    unfold capN
    generalize numD f = x at *
    by_cases hx : x ≤ 1099511627776
    · rw [Nat.min_eq_left hx]
    · rw [Nat.min_eq_right (by omega), if_neg (by omega), if_neg (by omega)]
  | true =>
    rw [stepsZ_neg]
    have e : parseN true f k = -(256 * (capN (numD f) : Int) + behindP k) - (if behindM k then 1 else 0) := rfl
    have em : (if 256 * numD k % 10 ^ k.length = 0 then (0 : Int) else 1) = (if behindM k then 1 else 0) := by
      unfold behindM
      by_cases h0 : 256 * numD k % 10 ^ k.length = 0 <;> simp [h0]
    rw [e, em, show (256 * numD k / 10 ^ k.length : Nat) = behindP k from rfl]
    generalize behindP k = p at *
    obtain ⟨y, hy, hyb⟩ : ∃ y : Int, (if behindM k then (1 : Int) else 0) = y ∧ 0 ≤ y ∧ y ≤ 1 := ⟨_, rfl, by split <;> omega⟩
    rw [hy]
    unfold capN
    generalize numD f = x at *
    by_cases hx : x ≤ 1099511627776
    · rw [Nat.min_eq_left hx]
    · rw [Nat.min_eq_right (by omega), if_neg (by omega), if_neg (by omega)]

theorem parse_no (l t f k : List UInt8) (b c : Bool) (hs : signedS l = (t, b)) (hc : Lib.cut t [46] = (f, k, c)) (h : 20 < l.length ∨ f.all isDig = false ∨ k.all isDig = false ∨ f ++ k = []) : parseS l = (0, 6) := by
  have ok : decOk l = false := by
    unfold decOk
    rw [hs]; simp only; rw [hc]; simp only
    rcases h with h | h | h | h
    · rw [decide_eq_false (by omega)]; rfl
    · rw [h]; simp
    · rw [h]; simp
    · rw [h]; simp
  unfold parseS
  rw [ok]; rfl

/-- two numbers are handed back -/
def NE2 (w : World) (r : Int × Int) (e : Ending) (w' : World) : Prop := e = .returned (.tuple #[.int .i64 r.1, .int .i64 r.2]) ∧ Below w.heap.size w w'

set_option maxHeartbeats 3200000 in
theorem parse_bad (l t f k : List UInt8) (b c : Bool) (w : World) (hl : l.length ≤ 100000) (hE : Env w) (hs : signedS l = (t, b)) (hc : Lib.cut t [46] = (f, k, c)) (htl : t.length ≤ 100000) (hfl : f.length ≤ 100000) (hkl : k.length ≤ 100000)
    (h : 20 < l.length ∨ f.all isDig = false ∨ k.all isDig = false ∨ f ++ k = []) : Calls Tryd.prog 19 #[.string ⟨l.toArray⟩] w (NE2 w (0, 6)) := by
  have K1 := Lib.hid (fun W => signed_any l W)
  have K2 := Lib.hid (fun W hW => cut_any t W htl hW)
  have K3 := Lib.hid (fun W => plain_any f W (by omega))
  have K4 := Lib.hid (fun W => plain_any k W (by omega))
  rw [hs] at K1
  rw [hc] at K2
  have HE := Lib.hid hE; clear hE
  have H := Lib.hid h; clear h hs hc
  obtain ⟨rf, hrf⟩ : ∃ r, r = f.all isDig := ⟨_, rfl⟩
  obtain ⟨rk, hrk⟩ : ∃ r, r = k.all isDig := ⟨_, rfl⟩
  rw [← hrf, ← hrk] at H
  rw [← hrf] at K3
  rw [← hrk] at K4
  clear hrf hrk
  have A1 := fun W => run_cat (P := Tryd.prog) f k (by omega) W
  unfold NE2
  go_enter Tryd.func19, Tryd.ntmps19
  go_wp2_with fail
  refine (K1.out _).mono ?_
  clear K1
  rintro e w' ⟨rfl, rfl⟩
  go_wp2_with fail
  refine (K2.out _ HE.out).mono ?_
  clear K2
  rintro e w1 ⟨rfl, hb1⟩
  have HB := Lib.hid hb1; clear hb1
  by_cases h20 : 20 < l.length
  · have t0 : decide ((20 : Int) < (l.length : Int)) = true := decide_eq_true (by omega)
    go_wp2_with fail
    go_ret2
    exact ⟨rfl, HB.out⟩
  · have t0 : decide ((20 : Int) < (l.length : Int)) = false := decide_eq_false (by omega)
    go_wp2_with fail
    refine (K3.out _).mono ?_
    clear K3
    rintro e w2 ⟨rfl, hb1⟩
    have HB := Lib.hid (HB.out.trans (hb1.mono HB.out.size)); clear hb1
    cases rf with
    | false =>
      go_wp2_with fail
      go_ret2
      exact ⟨rfl, HB.out⟩
    | true =>
      go_wp2_with fail
      refine (K4.out _).mono ?_
      clear K4
      rintro e w2 ⟨rfl, hb1⟩
      have HB := Lib.hid (HB.out.trans (hb1.mono HB.out.size)); clear hb1
      cases rk with
      | false =>
        go_wp2_with fail
        go_ret2
        exact ⟨rfl, HB.out⟩
      | true =>
        have e0 : f ++ k = [] := by
          rcases H.out with h | h | h | h
          · exact absurd h h20
          · cases h
          · cases h
          · exact h
        obtain ⟨rfl, rfl⟩ := List.append_eq_nil_iff.1 e0
        clear e0 H
        go_wp2_with fail
        go_ret2
        exact ⟨rfl, HB.out⟩

set_option maxHeartbeats 6400000 in
theorem parse_good (l t f k : List UInt8) (b c : Bool) (w : World) (hl : l.length ≤ 20) (hE : Env w) (hs : signedS l = (t, b)) (hc : Lib.cut t [46] = (f, k, c)) (htl : t.length ≤ 20) (hfl : f.length ≤ 20) (hkl : k.length ≤ 20)
    (hf : f.all isDig = true) (hk : k.all isDig = true) (h : f ++ k ≠ []) : Calls Tryd.prog 19 #[.string ⟨l.toArray⟩] w (NE2 w (if -1048576 ≤ parseN b f k ∧ parseN b f k ≤ 1048576 then (parseN b f k, 0) else (0, 5))) := by
  have hu : Tryd.prog.underlying 9 = some .string := Tryd.underlying9
  have K1 := Lib.hid (fun W => signed_any l W)
  have K2 := Lib.hid (fun W hW => cut_any t W (by omega) hW)
  have K3 := Lib.hid (fun W => plain_any f W (by omega))
  have K4 := Lib.hid (fun W => plain_any k W (by omega))
  have K5 := Lib.hid (fun W => behind_any k W (by omega) hk)
  have hPb := behindP_le k hk
  rw [hs] at K1
  rw [hc] at K2
  rw [hf] at K3
  rw [hk] at K4
  have HF := Lib.hid hf
  have HE := Lib.hid hE; clear hE
  obtain ⟨u, hu0⟩ : ∃ u, u = f ++ k := ⟨_, rfl⟩
  have hune : u ≠ [] := by rw [hu0]; exact h
  have A1 := fun W => run_cat (P := Tryd.prog) f k (by omega) W
  rw [← hu0] at A1
  clear hs hc hf hk h hu0
  obtain ⟨a0, r0, rfl⟩ : ∃ a r, u = a :: r := by
    cases u with
    | nil => exact absurd rfl hune
    | cons a r => exact ⟨a, r, rfl⟩
  clear hune
  obtain ⟨Z, hZ⟩ : ∃ Z, Z = parseN b f k := ⟨_, rfl⟩
  rw [← hZ]
  have HZ := Lib.hid hZ; clear hZ
  have FIN : Hid (∀ w', Below w.heap.size w w' → (-1048576 ≤ Z ∧ Z ≤ 1048576) → NE2 w (if -1048576 ≤ Z ∧ Z ≤ 1048576 then (Z, 0) else (0, 5)) (.returned (.tuple #[.int .i64 Z, .int .i64 0])) w') := Lib.hid (fun w' hb hz => by rw [if_pos hz]; exact ⟨rfl, hb⟩)
  have FIN2 : Hid (∀ w', Below w.heap.size w w' → ¬ (-1048576 ≤ Z ∧ Z ≤ 1048576) → NE2 w (if -1048576 ≤ Z ∧ Z ≤ 1048576 then (Z, 0) else (0, 5)) (.returned (.tuple #[.int .i64 0, .int .i64 5])) w') := Lib.hid (fun w' hb hz => by rw [if_neg hz]; exact ⟨rfl, hb⟩)
  generalize NE2 w (if -1048576 ≤ Z ∧ Z ≤ 1048576 then (Z, 0) else (0, 5)) = Qp at FIN FIN2 ⊢
  go_enter Tryd.func19, Tryd.ntmps19
  go_wp2_with fail
  refine (K1.out _).mono ?_
  clear K1
  rintro e w' ⟨rfl, rfl⟩
  go_wp2_with fail
  refine (K2.out _ HE.out).mono ?_
  clear K2
  rintro e w1 ⟨rfl, hb1⟩
  have HB := Lib.hid hb1; clear hb1
  have t0 : decide ((20 : Int) < (l.length : Int)) = false := decide_eq_false (by omega)
  go_wp2_with fail
  refine (K3.out _).mono ?_
  clear K3
  rintro e w2 ⟨rfl, hb1⟩
  have HB := Lib.hid (HB.out.trans (hb1.mono HB.out.size)); clear hb1
  go_wp2_with fail
  refine (K4.out _).mono ?_
  clear K4
  rintro e w3 ⟨rfl, hb1⟩
  have HB := Lib.hid (HB.out.trans (hb1.mono HB.out.size)); clear hb1
  go_wp2_with fail
  go_loopw [9] (fun n wr => ∃ (j x : Nat), j ≤ f.length ∧ wr = w3.iter ⟨f.toArray⟩ j ∧ n = .int .i64 x ∧ x ≤ 1099511627776 ∧ Hid (x = capN (numD (f.take j)))) (fun _ wr => f.length - wr.iterPos w3.heap.size)
  case atStart => exact ⟨0, 0, Nat.zero_le _, rfl, rfl, by omega, Lib.hid rfl⟩
  case round =>
    clear A1
    obtain ⟨j, x, hj, rfl, rfl, hx, hxe⟩ := hrel
    have hB : Hid (Below w.heap.size w (w3.iter ⟨f.toArray⟩ j)) := Lib.hid (HB.out.trans (((Below.refl _ _).alloc (Nat.le_refl _) _ : Below w3.heap.size w3 (w3.iter ⟨f.toArray⟩ j)).mono HB.out.size))
    by_cases hlt : j < f.length
    · have hlt' : j < (⟨f.toArray⟩ : ByteArray).size := hlt
      obtain ⟨ch, hch⟩ : ∃ c, c = f[j] := ⟨_, rfl⟩
      have hdc := List.all_eq_true.1 HF.out ch (by rw [hch]; exact List.getElem_mem hlt)
      have hd' := (isDig_iff ch).1 hdc
      have hnx : ∀ ty, (Instr.next (.pointer (some ⟨w3.heap.size, 0, none⟩)) true ty).run Tryd.prog (w3.iter ⟨f.toArray⟩ j) = .ok (.tuple #[.bool true, .int .i64 j, .int .i32 (ch.toNat : Int)]) (w3.iter ⟨f.toArray⟩ (j + 1)) := fun ty => by
        rw [hch]; exact run_next_ascii w3 ⟨f.toArray⟩ j ty hlt' (by show (f[j]).toNat < 128; rw [← hch]; omega)
      obtain ⟨d, hd⟩ : ∃ d, d = dv ch := ⟨_, rfl⟩
      have hxn : Hid (min (10 * x + d) 1099511627776 = capN (numD (f.take (j + 1)))) := Lib.hid (by
        rw [List.take_succ_eq_append_getElem hlt, numD_snoc, ← hch, ← hd, hxe.out, capN_step])
      have hdd : (ch.toNat : Int) = 48 + (d : Int) := by rw [hd]; unfold dv; omega
      have hd9 : d ≤ 9 := by rw [hd]; exact dv_le hdc
      rw [hdd] at hnx
      clear hd hch hdc hd' hdd
      have w1 : (48 + (d : Int)) - 48 = (d : Int) := by omega
      rcases Nat.lt_trichotomy (10 * x + d) 1099511627776 with h9 | h9 | h9
      · have m1 : 10 * (x : Int) + (d : Int) < 1099511627776 := by omega
        have hxn2 : Hid (10 * x + d = capN (numD (f.take (j + 1)))) := Lib.hid (by rw [← hxn.out, Nat.min_eq_left (by omega)])
        go_wp2_with fail
        go_roundw
        case rel => exact ⟨j + 1, 10 * x + d, by omega, rfl, by go_num, by omega, hxn2⟩
        case measure => simp; omega
      · have hxn2 : Hid (1099511627776 = capN (numD (f.take (j + 1)))) := Lib.hid (by rw [← hxn.out, Nat.min_eq_right (by omega)])
        have m1 : 10 * (x : Int) + (d : Int) ≤ 1099511627776 := by omega
        have m2 : 1099511627776 ≤ 10 * (x : Int) + (d : Int) := by omega
        clear h9
        go_wp2_with fail
        go_roundw
        case rel => exact ⟨j + 1, 1099511627776, by omega, rfl, by go_num, by omega, hxn2⟩
        case measure => simp; omega
      · have hxn2 : Hid (1099511627776 = capN (numD (f.take (j + 1)))) := Lib.hid (by rw [← hxn.out, Nat.min_eq_right (by omega)])
        have m1 : 1099511627776 < 10 * (x : Int) + (d : Int) := by omega
        go_wp2_with fail
        go_roundw
        case rel => exact ⟨j + 1, 1099511627776, by omega, rfl, by go_num, by omega, hxn2⟩
        case measure => simp; omega
    · have hnx : ∀ ty, (Instr.next (.pointer (some ⟨w3.heap.size, 0, none⟩)) true ty).run Tryd.prog (w3.iter ⟨f.toArray⟩ j) = .ok (.tuple #[.bool false]) (w3.iter ⟨f.toArray⟩ j) := fun ty => run_next_end w3 ⟨f.toArray⟩ j ty hlt
      have hxe2 : Hid (x = capN (numD f)) := Lib.hid (by rw [hxe.out, List.take_of_length_le (by omega)])
      go_wp2_with fail
      refine (K5.out _).mono ?_
      clear K5 hnx
      rintro e w4 ⟨rfl, hb1⟩
      have HB := Lib.hid (hB.out.trans (hb1.mono hB.out.size)); clear hb1
      have hZ2 : Hid (Z = if b then -(256 * (x : Int) + behindP k) - (if behindM k then 1 else 0) else 256 * (x : Int) + behindP k) := Lib.hid (by rw [HZ.out, hxe2.out]; rfl)
      generalize behindP k = p at *
      generalize behindM k = m at *
      cases b with
      | false =>
        have hz3 : Z = 256 * (x : Int) + p := by rw [hZ2.out]; simp
        have HZ3 : Hid ((x : Int) * 256 + p = Z) := Lib.hid (by omega)
        by_cases hr : Z ≤ 1048576
        · have t1 : decide ((x : Int) * 256 + p < -1048576) = false := decide_eq_false (by omega)
          have t2 : decide (1048576 < (x : Int) * 256 + p) = false := decide_eq_false (by omega)
          have F := FIN.out w4 HB.out ⟨by omega, hr⟩
          rw [← HZ3.out] at F
          clear hz3 hr
          go_wp2_with fail
          first | exact F | (go_ret2; exact F)
        · have t1 : decide ((x : Int) * 256 + p < -1048576) = false := decide_eq_false (by omega)
          have t2 : decide (1048576 < (x : Int) * 256 + p) = true := decide_eq_true (by omega)
          have F := FIN2.out w4 HB.out (by omega)
          clear hz3 hr
          go_wp2_with fail
          first | exact F | (go_ret2; exact F)
      | true =>
        cases m with
        | false =>
          have hz3 : Z = -(256 * (x : Int) + p) := by rw [hZ2.out]; simp
          have HZ3 : Hid (-((x : Int) * 256 + p) = Z) := Lib.hid (by omega)
          by_cases hr : -1048576 ≤ Z
          · have t1 : decide (-((x : Int) * 256 + p) < -1048576) = false := decide_eq_false (by omega)
            have t2 : decide (1048576 < -((x : Int) * 256 + p)) = false := decide_eq_false (by omega)
            have F := FIN.out w4 HB.out ⟨hr, by omega⟩
            rw [← HZ3.out] at F
            obtain ⟨y, hy⟩ : ∃ y, y = -((x : Int) * 256 + p) := ⟨_, rfl⟩
            rw [← hy] at t1 t2 F
            have hyb : -1048576 ≤ y ∧ y ≤ 0 := by omega
            have w1 : (x : Int) * 256 + p = -y := by omega
            clear hz3 hr hy
            go_wp2_with fail
            first | exact F | (go_ret2; exact F)
          · have F := FIN2.out w4 HB.out (by omega)
            obtain ⟨y, hy⟩ : ∃ y, y = -((x : Int) * 256 + p) := ⟨_, rfl⟩
            have t1 : decide (y < -1048576) = true := decide_eq_true (by omega)
            have hyb : -281474976710912 ≤ y ∧ y ≤ 0 := by omega
            have w1 : (x : Int) * 256 + p = -y := by omega
            clear hz3 hr hy
            go_wp2_with fail
            first | exact F | (go_ret2; exact F)
        | true =>
          have hz3 : Z = -(256 * (x : Int) + p) - 1 := by rw [hZ2.out]; simp
          have HZ3 : Hid (-((x : Int) * 256 + p) - 1 = Z) := Lib.hid (by omega)
          by_cases hr : -1048576 ≤ Z
          · have t1 : decide (-((x : Int) * 256 + p) - 1 < -1048576) = false := decide_eq_false (by omega)
            have t2 : decide (1048576 < -((x : Int) * 256 + p) - 1) = false := decide_eq_false (by omega)
            have F := FIN.out w4 HB.out ⟨hr, by omega⟩
            rw [← HZ3.out] at F
            clear hz3 hr
            go_wp2_with fail
            first | exact F | (go_ret2; exact F)
          · have F := FIN2.out w4 HB.out (by omega)
            have t1 : decide (-((x : Int) * 256 + p) - 1 < -1048576) = true := decide_eq_true (by omega)
            clear hz3 hr
            go_wp2_with fail
            first | exact F | (go_ret2; exact F)

theorem trimPrefix_len (s p : List UInt8) : (Lib.trimPrefix s p).length ≤ s.length := Lib.trimPrefix_le s p
theorem parse_any (l : List UInt8) (w : World) (hl : l.length ≤ 100000) (hE : Env w) : Calls Tryd.prog 19 #[.string ⟨l.toArray⟩] w (NE2 w (parseS l)) := by
  obtain ⟨t, b, hs⟩ : ∃ t b, signedS l = (t, b) := ⟨_, _, rfl⟩
  obtain ⟨f, k, c, hc⟩ : ∃ f k c, Lib.cut t [46] = (f, k, c) := ⟨_, _, _, rfl⟩
  have htl : t.length ≤ l.length := by
    rcases signed_cases l with ⟨u, rfl, e⟩ | ⟨u, rfl, e⟩ | ⟨_, _, e⟩ <;> rw [e] at hs <;> injection hs with hs <;> subst hs <;> simp
  have hpl := pds_len t
  have hc' := hc
  rw [cut_eq] at hc'
  unfold pds at hpl
  rw [hc', List.length_append] at hpl
  simp only at hpl
  by_cases h : 20 < l.length ∨ f.all isDig = false ∨ k.all isDig = false ∨ f ++ k = []
  · rw [parse_no l t f k b c hs hc h]
    exact parse_bad l t f k b c w hl hE hs hc (by omega) (by omega) (by omega) h
  · have h1 : l.length ≤ 20 := Nat.le_of_not_lt fun h9 => h (.inl h9)
    have h2 : f.all isDig = true := by
      cases e : f.all isDig with
      | true => rfl
      | false => exact absurd (.inr (.inl e)) h
    have h3 : k.all isDig = true := by
      cases e : k.all isDig with
      | true => rfl
      | false => exact absurd (.inr (.inr (.inl e))) h
    have h4 : f ++ k ≠ [] := fun e => h (.inr (.inr (.inr e)))
    rw [parse_fin l t f k b c hs hc h1 h2 h3 h4]
    exact parse_good l t f k b c w h1 hE hs hc (by omega) (by omega) (by omega) h2 h3 h4
end Go.Proofs.YtkdffcoofijhkaaDoor
