/-
  THE LEXICAL ORDER OF A REGION, asked quickly: one look at each pair of operations, by masks. Nothing of the program is named here.
-/
import Derived.Test.YtkdffcoofijhkaaDoorBase
set_option linter.unusedVariables false
set_option linter.unusedSimpArgs false
namespace Go.Proofs.YtkdffcoofijhkaaDoor
open Go.RowKit

def maskOf (l : List Nat) : Nat := l.foldr (fun t m => Nat.lor (Nat.pow 2 t) m) 0
theorem mask_bit (l : List Nat) (t : Nat) : (maskOf l).testBit t = l.contains t := by
  induction l with
  | nil => simp [maskOf]
  | cons x l ih =>
    have h : maskOf (x :: l) = (2 ^ x) ||| maskOf l := rfl
    rw [h, Nat.testBit_or, ih, Nat.testBit_two_pow, List.contains_cons]
    congr 1
    by_cases hxt : x = t
    · subst hxt; simp
    · have h2 : ¬ t = x := fun e => hxt e.symm
      simp [hxt, h2]
def dstM (o : Oper) : Nat := match o.dst with | some d => Nat.pow 2 d | none => 0
def onL (o : Oper) : List Nat := o.after.toList.filterMap fun e => if Region.binds .any e then some e.on else none
def lookM (ops : Array Oper) (o : Oper) : Nat := maskOf (o.looksAt ops)
def pairOk (ops : Array Oper) (i : Nat) (x y : Oper) : Bool :=
  Nat.testBit (maskOf (onL y)) i || (Nat.beq (Nat.land (dstM x) (Nat.lor (lookM ops y) (dstM y))) 0 && Nat.beq (Nat.land (dstM y) (lookM ops x)) 0)
def pairsOk (ops : Array Oper) : List Oper → Nat → Bool
  | [], _ => true
  | x :: l, i => l.all (fun y => pairOk ops i x y) && pairsOk ops l (i + 1)
def edgesOk : List Oper → Nat → Bool
  | [], _ => true
  | o :: l, k => o.after.toList.all (fun e => Nat.ble (e.on + 1) k) && edgesOk l (k + 1)
def lexFast (l : List Oper) : Bool := Region.noSelect l.toArray && edgesOk l 0 && pairsOk l.toArray l 0

theorem land_apart {d m : Nat} (h : Nat.beq (Nat.land (2 ^ d) m) 0 = true) : m.testBit d = false := by
  have h0 : (2 ^ d) &&& m = 0 := Nat.eq_of_beq_eq_true h
  have h1 := congrArg (fun x => Nat.testBit x d) h0
  simp only [Nat.testBit_and, Nat.testBit_two_pow, Nat.zero_testBit] at h1
  simpa using h1

theorem apart_of_masks {ops : Array Oper} {x y : Oper} (h1 : Nat.beq (Nat.land (dstM x) (Nat.lor (lookM ops y) (dstM y))) 0 = true) (h2 : Nat.beq (Nat.land (dstM y) (lookM ops x)) 0 = true) : x.apart ops y = true := by
  unfold Oper.apart
  rw [Bool.and_eq_true]
  constructor
  · cases hx : x.dst with
    | none => rfl
    | some d =>
      have e : dstM x = 2 ^ d := by simp only [dstM, hx]; rfl
      rw [e] at h1
      have h3 := land_apart h1
      rw [show Nat.lor (lookM ops y) (dstM y) = lookM ops y ||| dstM y from rfl, Nat.testBit_or, Bool.or_eq_false_iff, lookM, mask_bit] at h3
      simp only [Bool.and_eq_true, bne_iff_ne, Bool.not_eq_true']
      refine ⟨h3.1, fun hy => ?_⟩
      have e2 : dstM y = 2 ^ d := by simp only [dstM, hy]; rfl
      rw [e2, Nat.testBit_two_pow_self] at h3
      exact absurd h3.2 (by simp)
  · cases hy : y.dst with
    | none => rfl
    | some d =>
      have e : dstM y = 2 ^ d := by simp only [dstM, hy]; rfl
      rw [e] at h2
      have h3 := land_apart h2
      rw [lookM, mask_bit] at h3
      simpa using h3

theorem pairsOk_get {ops : Array Oper} : ∀ {l : List Oper} {k : Nat}, pairsOk ops l k = true → ∀ {i j : Nat} {x y : Oper}, i < j → l[i]? = some x → l[j]? = some y → pairOk ops (k + i) x y = true
  | [], _, _, _, _, _, _, _, hx, _ => by simp at hx
  | o :: l, k, h, i, j, x, y, hij, hx, hy => by
    simp only [pairsOk, Bool.and_eq_true, List.all_eq_true] at h
    cases j with
    | zero => omega
    | succ j =>
      rw [List.getElem?_cons_succ] at hy
      cases i with
      | zero =>
        rw [List.getElem?_cons_zero] at hx
        cases hx
        exact h.1 y (List.mem_of_getElem? hy)
      | succ i =>
        rw [List.getElem?_cons_succ] at hx
        have := pairsOk_get h.2 (i := i) (j := j) (by omega) hx hy
        rwa [show k + (i + 1) = k + 1 + i by omega]
theorem edgesOk_get : ∀ {l : List Oper} {k : Nat}, edgesOk l k = true → ∀ {i : Nat} {o : Oper}, l[i]? = some o → ∀ e ∈ o.after, e.on < k + i
  | [], _, _, _, _, h, _, _ => by simp at h
  | o :: l, k, h, i, x, hx, e, he => by
    simp only [edgesOk, Bool.and_eq_true, List.all_eq_true] at h
    cases i with
    | zero =>
      rw [List.getElem?_cons_zero] at hx
      cases hx
      have := Nat.le_of_ble_eq_true (h.1 e (by simpa using he))
      omega
    | succ i =>
      rw [List.getElem?_cons_succ] at hx
      have := edgesOk_get h.2 hx e he
      omega

theorem lexFrom_of {l : List Oper} (he : edgesOk l 0 = true) (hp : pairsOk l.toArray l 0 = true) : ∀ (fuel k : Nat) (listed : Array Bool), k + fuel = l.length → listed.size = l.length → (∀ j, j < l.length → listed[j]? = some (decide (j < k))) →
    Region.lexFrom .any l.toArray fuel k listed = true
  | 0, k, listed, hk, hs, hl => by
    simp only [Region.lexFrom, List.isEmpty_iff, Region.ready, List.filter_eq_nil_iff, List.mem_range]
    intro i hi
    have hi' : i < l.length := hi
    have := hl i hi'
    simp only [Array.getD_eq_getD_getElem?, this, Option.getD_some]
    simp; omega
  | fuel + 1, k, listed, hk, hs, hl => by
    have hkl : k < l.length := by omega
    have hx : l[k]? = some (l[k]) := List.getElem?_eq_getElem hkl
    have hxa : l.toArray[k]? = some (l[k]) := by simp [hx]
    simp only [Region.lexFrom, Bool.and_eq_true]
    refine ⟨⟨?_, ?_⟩, ?_⟩
    · rw [List.contains_iff_mem, Region.ready, List.mem_filter, List.mem_range]
      refine ⟨by simpa using hkl, ?_⟩
      rw [hxa]
      simp only [Array.getD_eq_getD_getElem?, hl k hkl, Option.getD_some, Option.map_some, Bool.and_eq_true]
      refine ⟨by simp, ?_⟩
      rw [Array.all_eq_true_iff_forall_mem]
      intro e hem
      have := edgesOk_get he hx e hem
      rw [hl e.on (by omega)]
      simp; right; omega
    · unfold Region.free
      rw [hxa]
      simp only [List.all_eq_true, List.mem_range]
      intro j hj
      have hj' : j < l.length := hj
      have hy : l[j]? = some (l[j]) := List.getElem?_eq_getElem hj'
      have hya : l.toArray[j]? = some (l[j]) := by rw [List.getElem?_toArray]; exact hy
      rw [hya]
      simp only [Array.getD_eq_getD_getElem?, hl j hj', Option.getD_some, Bool.or_eq_true, beq_iff_eq, decide_eq_true_eq]
      rcases Nat.lt_trichotomy j k with h | h | h
      · exact .inl (.inr h)
      · exact .inl (.inl h)
      · right
        have h2 := pairsOk_get hp h hx hy
        rw [Nat.zero_add] at h2
        simp only [pairOk, Bool.or_eq_true, Bool.and_eq_true] at h2
        rcases h2 with h2 | h2
        · left
          rw [mask_bit, List.contains_iff_mem, onL, List.mem_filterMap] at h2
          obtain ⟨e, hem, hif⟩ := h2
          split at hif
          · rename_i hb
            cases hif
            rw [Array.any_eq_true]
            obtain ⟨n, hn, hge⟩ := Array.getElem_of_mem (Array.mem_toList_iff.1 hem)
            exact ⟨n, hn, by rw [hge]; simp [hb]⟩
          · cases hif
        · exact .inr (apart_of_masks h2.1 h2.2)
    · refine lexFrom_of he hp fuel (k + 1) _ (by omega) (by simpa using hs) (fun j hj => ?_)
      rw [Array.getElem?_setIfInBounds]
      by_cases h : k = j
      · subst h; rw [if_pos rfl, if_pos (by omega)]; simp
      · rw [if_neg h, hl j hj]; congr 1; rw [decide_eq_decide]; omega

theorem lexB_of_fast {l : List Oper} (h : lexFast l = true) : Region.lexB .any l.toArray = true := by
  simp only [lexFast, Bool.and_eq_true] at h
  obtain ⟨⟨h1, h2⟩, h3⟩ := h
  simp only [Region.lexB, Bool.and_eq_true]
  refine ⟨h1, ?_⟩
  have := lexFrom_of h2 h3 l.length 0 (Array.replicate l.length false) (by omega) (by simp) (fun j hj => by simp [hj])
  simpa using this
end Go.Proofs.YtkdffcoofijhkaaDoor
