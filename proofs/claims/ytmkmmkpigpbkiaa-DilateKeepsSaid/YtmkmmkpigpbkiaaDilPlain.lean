/-
  PLAIN LAWS OF SPREADING: what has a value keeps it; what is filled has a value that is near.
-/
import Derived.Test.YtmkmmkpigpbkiaaDilLawD
set_option linter.unusedVariables false
set_option linter.unusedSimpArgs false
namespace Go.Proofs.Ytmkmmkpigpbkiaa
open Go.RowKit

theorem near_val {w : Nat} {v : List Int} {x y pad : Int} {t : Pt} (hp : pad ≤ 8) (h : nearS w v x y pad = (t, true)) : ∃ j, j < v.length ∧ t = tx w j ∧ Val w v x y pad j := by
  unfold nearS at h
  rcases nearTo_inv w v x y pad hp v.length with ⟨h6, _⟩ | ⟨j, hj, h6, h7, h8, h9⟩
  · rw [h6] at h; simp at h
  · rw [h6] at h
    injection h with h1 h2
    exact ⟨j, hj, h1.symm, h7⟩
/-- texel k has a value and is near texel i -/
def thereB (w : Nat) (v : List Int) (pad : Int) (i k : Nat) : Bool := decide (farS (tx w i) (tx w k) ≤ pad) && decide (0 ≤ v.getD k (-1))
def nearB (w : Nat) (v : List Int) (pad : Int) (i K : Nat) : Bool := (List.range K).any fun k => thereB w v pad i k && (v.getD k (-1) == spreadAt w v pad i)
theorem nearB_succ (w : Nat) (v : List Int) (pad : Int) (i K : Nat) : nearB w v pad i (K + 1) = (nearB w v pad i K || (thereB w v pad i K && (v.getD K (-1) == spreadAt w v pad i))) := by
  unfold nearB
  rw [List.range_succ, List.any_append]
  simp
theorem there_val {w : Nat} {v : List Int} {pad : Int} {i k : Nat} (h : thereB w v pad i k = true) : Val w v ((i % w : Nat) : Int) ((i / w : Nat) : Int) pad k := by
  unfold thereB at h
  simp only [Bool.and_eq_true, decide_eq_true_eq] at h
  exact ⟨h.2, h.1⟩
section
variable {w : Nat} {v : List Int} {h pad : Int}
/-- one is near: so it is filled -/
theorem there_fills (p : Pict w v h) (hp : 0 ≤ pad) (hp8 : pad ≤ 8) {i k : Nat} (hi : i < v.length) (hk : k < v.length) (ht : thereB w v pad i k = true) : 0 ≤ spreadAt w v pad i := by
  have hv := there_val ht
  rcases spreadAt_cases p hp hp8 hi with ⟨j, hj, hn, hs⟩ | ⟨hn, hs, _⟩
  · obtain ⟨j', hj', e, hv'⟩ := near_val hp8 hn
    have e2 : j = j' := by
      have b1 := p.key_tx j
      have b2 := p.key_tx j'
      rw [e] at b1; omega
    rw [hs, e2]; exact hv'.1
  · exfalso
    unfold nearS at hn
    rcases nearTo_inv w v ((i % w : Nat) : Int) ((i / w : Nat) : Int) pad hp8 v.length with ⟨_, g6⟩ | ⟨j, hj, h6, h7, h8, h9⟩
    · exact g6 k hk hv
    · rw [h6] at hn
      injection hn with _ h2
      have h3 := h7.2
      have h2' := of_decide_eq_false h2
      omega
/-- it is filled: so one that is near has that value -/
theorem fills_near (p : Pict w v h) (hp : 0 ≤ pad) (hp8 : pad ≤ 8) {i : Nat} (hi : i < v.length) (h0 : 0 ≤ spreadAt w v pad i) : nearB w v pad i v.length = true := by
  rcases spreadAt_cases p hp hp8 hi with ⟨j, hj, hn, hs⟩ | ⟨hn, hs, _⟩
  · obtain ⟨j', hj', e, hv'⟩ := near_val hp8 hn
    have e2 : j = j' := by
      have b1 := p.key_tx j
      have b2 := p.key_tx j'
      rw [e] at b1; omega
    subst e2
    unfold nearB
    rw [List.any_eq_true]
    refine ⟨j, List.mem_range.2 hj, ?_⟩
    have hv2 : farS (tx w i) (tx w j) ≤ pad := hv'.2
    unfold thereB
    rw [decide_eq_true hv2, decide_eq_true hv'.1, hs]
    simp
  · omega
theorem spread_keeps (p : Pict w v h) (hp : 0 ≤ pad) (hp8 : pad ≤ 8) {i : Nat} (hi : i < v.length) (h0 : 0 ≤ v.getD i (-1)) : spreadAt w v pad i = v.getD i (-1) := by
  unfold spreadAt
  rw [near_self p hp hp8 hi h0]
  have := p.key_tx i
  unfold keyS at this
  simp only [if_true]
  rw [this]
theorem spread_zero (p : Pict w v h) : spreadS w v 0 = v := by
  refine List.ext_getElem? fun i => ?_
  by_cases hi : i < v.length
  · rw [spreadS_get hi, List.getElem?_eq_getElem hi]
    have e : v.getD i (-1) = v[i] := by simp [List.getD_eq_getElem?_getD, List.getElem?_eq_getElem hi]
    rw [← e]
    congr 1
    rcases spreadAt_cases p (Int.le_refl 0) (by omega) hi with ⟨j, hj, hn, hs⟩ | ⟨hn, hs, h2⟩
    · obtain ⟨j', hj', e1, hv'⟩ := near_val (by omega) hn
      have a0 := (farS_range ⟨((i % w : Nat) : Int), ((i / w : Nat) : Int)⟩ (tx w j')).1
      have e3 : tx w i = tx w j' := (farS_zero (tx w i) (tx w j')).1 (by have := hv'.2; show farS ⟨_, _⟩ (tx w j') = 0; omega)
      have e2 : j = i := by
        have b1 := p.key_tx j
        have b2 := p.key_tx i
        rw [e1, ← e3] at b1; omega
      rw [hs, e2]
    · rw [hs, h2]
  · rw [List.getElem?_eq_none (by rw [spreadS_len]; omega), List.getElem?_eq_none (by omega)]
end

end Go.Proofs.Ytmkmmkpigpbkiaa
