/-
  THE PLAIN LAWS of a face: its errors, and where its corners lie. No program in sight.
-/
import Derived.Test.YtkdffcoofijhkaaDoorFaceWalkH
set_option linter.unusedVariables false
set_option linter.unusedSimpArgs false
namespace Go.Proofs.YtkdffcoofijhkaaDoor
open Go

theorem place_val (l : List UInt8) (m : Int) : (placeR l m).2 = 0 ∧ 0 ≤ (placeR l m).1 ∧ (placeR l m).1 < m ∨ (placeR l m).2 = 6 ∨ (placeR l m).2 = 7 := by
  unfold placeR
  split
  · split
    · left; exact ⟨rfl, by simp only; omega, by simp only; omega⟩
    · split
      · left; exact ⟨rfl, by simp only; omega, by simp only; omega⟩
      · right; right; rfl
  · right; left; rfl
theorem part_val (ls : List (List UInt8)) (j : Nat) (m : Int) : (partR ls j m).2 = 0 ∧ ((partR ls j m).1 = -1 ∨ 0 ≤ (partR ls j m).1 ∧ (partR ls j m).1 < m) ∨ (partR ls j m).2 = 6 ∨ (partR ls j m).2 = 7 := by
  unfold partR
  split
  · exact .inl ⟨rfl, .inl rfl⟩
  · split
    · exact .inl ⟨rfl, .inl rfl⟩
    · rcases place_val ‹_› m with ⟨a, b, c⟩ | h | h
      · exact .inl ⟨a, .inr ⟨b, c⟩⟩
      · exact .inr (.inl h)
      · exact .inr (.inr h)
theorem part0_val (ls : List (List UInt8)) (m : Int) (hf : formOk ls = true) : (partR ls 0 m).2 = 0 → 0 ≤ (partR ls 0 m).1 ∧ (partR ls 0 m).1 < m := by
  intro h
  cases ls with
  | nil => simp [formOk] at hf
  | cons a r =>
    have ha : a.isEmpty = false := by
      unfold formOk at hf
      simp only [Bool.and_eq_true, List.headD_cons, Bool.not_eq_true'] at hf
      exact hf.1.1.2
    have e : partR (a :: r) 0 m = placeR a m := by unfold partR; simp [ha]
    rw [e] at h ⊢
    rcases place_val a m with ⟨_, b, c⟩ | h9 | h9
    · exact ⟨b, c⟩
    · omega
    · omega
/-- a corner lies within a mesh -/
def inM (m c : P3) : Prop := 0 ≤ c.a ∧ c.a < m.a ∧ -1 ≤ c.b ∧ (c.b < m.b ∨ c.b < 0) ∧ -1 ≤ c.c ∧ (c.c < m.c ∨ c.c < 0)
theorem corner_val (s : List UInt8) (m : P3) : (cornerR s m).2 = 0 ∧ inM m (cornerR s m).1 ∨ (cornerR s m).2 = 6 ∨ (cornerR s m).2 = 7 := by
  unfold cornerR
  generalize split1 47 s = ls
  unfold readR
  by_cases hf : formOk ls = true
  · rw [if_pos hf]
    have p0 := part_val ls 0 m.a
    have q0 := part0_val ls m.a hf
    have p1 := part_val ls 1 m.b
    have p2 := part_val ls 2 m.c
    by_cases h0 : (partR ls 0 m.a).2 = 0
    · rw [if_neg (by omega)]
      by_cases h1 : (partR ls 1 m.b).2 = 0
      · rw [if_neg (by omega)]
        by_cases h2 : (partR ls 2 m.c).2 = 0
        · rw [if_neg (by omega)]
          left
          refine ⟨rfl, ?_⟩
          unfold inM
          simp only
          have := q0 h0
          omega
        · rw [if_pos (by omega)]; right; simp only; omega
      · rw [if_pos (by omega)]; right; simp only; omega
    · rw [if_pos (by omega)]; right; simp only; omega
  · rw [if_neg hf]; right; left; rfl
def goodS (m : P3) (ls : List (List UInt8)) : Bool := decide (3 ≤ ls.length) && ls.all fun l => (cornerR l m).2 == 0
theorem cors_val (m : P3) : ∀ ls : List (List UInt8), ((corsR m ls).2 = 0 ∧ (ls.all fun l => (cornerR l m).2 == 0) = true ∧ (corsR m ls).1.length = ls.length ∧ ∀ c ∈ (corsR m ls).1, inM m c) ∨
    (((corsR m ls).2 = 6 ∨ (corsR m ls).2 = 7) ∧ (ls.all fun l => (cornerR l m).2 == 0) = false)
  | [] => .inl ⟨rfl, rfl, rfl, fun c hc => by simp [corsR] at hc⟩
  | l :: r => by
    have ih := cors_val m r
    unfold corsR
    rcases corner_val l m with ⟨h0, hi⟩ | h0 | h0
    · rw [if_pos h0]
      rcases ih with ⟨a, b, c, d⟩ | ⟨a, b⟩
      · rw [if_pos a]
        left
        refine ⟨rfl, by simp [h0, b], by simp [c], fun x hx => ?_⟩
        rcases List.mem_cons.1 hx with rfl | hx
        · exact hi
        · exact d x hx
      · rw [if_neg (by omega)]
        right
        exact ⟨a, by simp only [List.all_cons, b, Bool.and_false]⟩
    · rw [if_neg (by omega)]
      exact .inr ⟨.inl h0, by simp [h0]⟩
    · rw [if_neg (by omega)]
      exact .inr ⟨.inr h0, by simp [h0]⟩
/-- a corner of a face lies within the mesh, and is told as the first one is -/
def fitC (m f c : P3) : Prop := inM m c ∧ likeC f c = true
theorem face_val (m : P3) (ls : List (List UInt8)) : ((faceR m ls).2 = 0 ∧ goodS m ls = true ∧ (faceR m ls).1.length + 2 = ls.length ∧ ∀ t ∈ (faceR m ls).1, ∃ t0, (faceR m ls).1[0]? = some t0 ∧ fitC m t0.p t.p ∧ fitC m t0.p t.q ∧ fitC m t0.p t.r) ∨
    ((faceR m ls).1 = [] ∧ ((faceR m ls).2 = 6 ∨ (faceR m ls).2 = 7 ∧ goodS m ls = false)) := by
  unfold faceR goodS
  by_cases h3 : ls.length < 3
  · rw [if_pos h3]; exact .inr ⟨rfl, .inl rfl⟩
  · rw [if_neg h3]
    rcases cors_val m ls with ⟨a, b, c, d⟩ | ⟨a, b⟩
    · rw [if_neg (by omega)]
      by_cases hk : alikeC (corsR m ls).1 = true
      · rw [if_pos hk]
        left
        generalize (corsR m ls).1 = cs at *
        refine ⟨rfl, by rw [b, decide_eq_true (by omega)]; rfl, by simp only [fanS_length]; omega, fun t ht => ?_⟩
        simp only at ht ⊢
        have hall := List.all_eq_true.1 hk
        obtain ⟨i, hi, rfl⟩ := List.mem_map.1 ht
        have hi := List.mem_range.1 hi
        have g : ∀ j, j < cs.length → fitC m (cs.headD ⟨0, 0, 0⟩) (cs.getD j ⟨0, 0, 0⟩) := fun j hj => by
          have hm : cs.getD j ⟨0, 0, 0⟩ ∈ cs := by
            rw [List.getD_eq_getElem?_getD, List.getElem?_eq_getElem hj, Option.getD_some]; exact List.getElem_mem hj
          exact ⟨d _ hm, hall _ hm⟩
        have hh : cs.headD ⟨0, 0, 0⟩ = cs.getD 0 ⟨0, 0, 0⟩ := by cases cs <;> rfl
        rw [hh] at g
        refine ⟨⟨cs.getD 0 ⟨0, 0, 0⟩, cs.getD 1 ⟨0, 0, 0⟩, cs.getD 2 ⟨0, 0, 0⟩⟩, ?_, g _ (by omega), g _ (by omega), g _ (by omega)⟩
        unfold fanS
        rw [List.getElem?_map, List.getElem?_range (by omega)]
        rfl
      · rw [if_neg hk]; exact .inr ⟨rfl, .inl rfl⟩
    · rw [if_pos (by omega)]
      right
      refine ⟨rfl, ?_⟩
      rcases a with a | a
      · exact .inl a
      · exact .inr ⟨a, by simp only [b, Bool.and_false]⟩
end Go.Proofs.YtkdffcoofijhkaaDoor
