/- The order and the repetition of neighbors, in plain lists. Condition: none. -/
import Derived.Test.YtljacnpadelilaaGraph
namespace Go.Proofs.Ytljacnpadelilaa.Lists
open Col
/-- Which pairs have been gone through: those of the rows before i, and of row i all behind m. -/
def DL (l : List (List Int)) (i m : Nat) (a : Nat) (q : Int) : Prop := (a < i ∧ q ∈ l.getD a []) ∨ (a = i ∧ q ∈ (l.getD i []).drop m)
def LI (l : List (List Int)) (n i m : Nat) (xs : Nat → List Int) : Prop :=
  ∀ c, c < n → (∀ q, q ∈ xs c ↔ DL l i m c q ∨ ∃ a : Nat, q = a ∧ a < n ∧ DL l i m a c) ∧ (xs c).length ≤ 3 * (40 * i + ((l.getD i []).length - m))
theorem LI.start (l : List (List Int)) (n : Nat) : LI l n 0 (l.getD 0 []).length (fun _ => []) := by
  intro c hc
  refine ⟨fun q => ?_, by simp⟩
  simp [DL]
theorem LI.row {l : List (List Int)} {n i : Nat} {xs : Nat → List Int} (h : LI l n i 0 xs) (hl : (l.getD i []).length ≤ 40) : LI l n (i + 1) (l.getD (i + 1) []).length xs := by
  intro c hc
  obtain ⟨h1, h2⟩ := h c hc
  have e : ∀ a q, DL l i 0 a q ↔ DL l (i + 1) (l.getD (i + 1) []).length a q := fun a q => by
    unfold DL
    rw [List.drop_length, List.drop_zero]
    constructor
    · rintro (⟨a1, a2⟩ | ⟨rfl, a2⟩)
      · exact .inl ⟨by omega, a2⟩
      · exact .inl ⟨by omega, a2⟩
    · rintro (⟨a1, a2⟩ | ⟨_, a2⟩)
      · by_cases e : a = i
        · subst e; exact .inr ⟨rfl, a2⟩
        · exact .inl ⟨by omega, a2⟩
      · cases a2
  refine ⟨fun q => ?_, by omega⟩
  rw [h1 q]
  simp only [e]
theorem DL_step {l : List (List Int)} {i m : Nat} (hm : m < (l.getD i []).length) (a : Nat) (q : Int) : DL l i m a q ↔ DL l i (m + 1) a q ∨ (a = i ∧ q = (l.getD i []).getD m 0) := by
  unfold DL
  rw [List.drop_eq_getElem_cons hm, List.mem_cons]
  have : (l.getD i []).getD m 0 = (l.getD i [])[m] := by rw [List.getD_eq_getElem?_getD, List.getElem?_eq_getElem hm]; rfl
  rw [this]
  constructor
  · rintro (h | ⟨h1, h2 | h2⟩)
    · exact .inl (.inl h)
    · exact .inr ⟨h1, h2⟩
    · exact .inl (.inr ⟨h1, h2⟩)
  · rintro ((h | ⟨h1, h2⟩) | ⟨h1, h2⟩)
    · exact .inl h
    · exact .inr ⟨h1, .inr h2⟩
    · exact .inr ⟨h1, .inl h2⟩
theorem LI.out {l : List (List Int)} {n i m : Nat} {xs : Nat → List Int} (h : LI l n i (m + 1) xs) (hm : m < (l.getD i []).length) {b : Int} (hb : b = (l.getD i []).getD m 0) (hno : ¬ (0 ≤ b ∧ b < n)) :
    LI l n i m (fun c => if c = i then xs i ++ [b, b] else xs c) := by
  intro c hc
  obtain ⟨h1, h2⟩ := h c hc
  have key : ∀ q : Int, (∃ a : Nat, q = a ∧ a < n ∧ DL l i m a c) ↔ ∃ a : Nat, q = a ∧ a < n ∧ DL l i (m + 1) a c := fun q => by
    constructor
    · rintro ⟨a, rfl, ha, hd⟩
      rcases (DL_step hm _ _).1 hd with hd | ⟨_, hd⟩
      · exact ⟨a, rfl, ha, hd⟩
      · exact absurd ⟨by omega, by omega⟩ hno
    · rintro ⟨a, rfl, ha, hd⟩
      exact ⟨a, rfl, ha, (DL_step hm _ _).2 (.inl hd)⟩
  dsimp only
  by_cases e : c = i
  · subst e
    rw [if_pos rfl]
    refine ⟨fun q => ?_, by simp only [List.length_append, List.length_cons, List.length_nil]; omega⟩
    rw [key, DL_step hm, ← hb, List.mem_append, h1 q]
    simp only [List.mem_cons, List.not_mem_nil, or_false, or_self, true_and]
    constructor
    · rintro ((h | h) | h)
      · exact .inl (.inl h)
      · exact .inr h
      · exact .inl (.inr h)
    · rintro ((h | h) | h)
      · exact .inl (.inl h)
      · exact .inr h
      · exact .inl (.inr h)
  · rw [if_neg e]
    refine ⟨fun q => ?_, by omega⟩
    rw [key, DL_step hm, h1 q]
    simp only [e, false_and, or_false]
theorem LI.in_ {l : List (List Int)} {n i m : Nat} {xs : Nat → List Int} (h : LI l n i (m + 1) xs) (hi : i < n) (hm : m < (l.getD i []).length) {b : Nat} (hb : (b : Int) = (l.getD i []).getD m 0) (hbn : b < n) (ys : Nat → List Int)
    (hys : ys = (fun c => if c = i then xs i ++ [(b : Int), (b : Int)] else xs c)) :
    LI l n i m (fun c => if c = b then ys b ++ [(i : Int)] else ys c) := by
  intro c hc
  obtain ⟨h1, h2⟩ := h c hc
  have hy : (∀ q, q ∈ ys c ↔ q ∈ xs c ∨ (c = i ∧ q = b)) ∧ (ys c).length ≤ (xs c).length + 2 := by
    rw [hys]
    dsimp only
    by_cases e : c = i
    · subst e
      rw [if_pos rfl]
      exact ⟨fun q => by simp, by simp⟩
    · rw [if_neg e]
      exact ⟨fun q => by simp [e], by omega⟩
  have hz : (∀ q, q ∈ (if c = b then ys b ++ [(i : Int)] else ys c) ↔ q ∈ ys c ∨ (c = b ∧ q = i)) ∧ (if c = b then ys b ++ [(i : Int)] else ys c).length ≤ (ys c).length + 1 := by
    by_cases e : c = b
    · subst e
      rw [if_pos rfl]
      exact ⟨fun q => by simp, by simp⟩
    · rw [if_neg e]
      exact ⟨fun q => by simp [e], by omega⟩
  clear hys
  refine ⟨fun q => ?_, by dsimp only; have := hz.2; have := hy.2; omega⟩
  dsimp only
  rw [hz.1, hy.1, h1]
  constructor
  · rintro (((h | ⟨a, rfl, ha, hd⟩) | ⟨rfl, rfl⟩) | ⟨rfl, rfl⟩)
    · exact .inl ((DL_step hm _ _).2 (.inl h))
    · exact .inr ⟨a, rfl, ha, (DL_step hm _ _).2 (.inl hd)⟩
    · exact .inl ((DL_step hm _ _).2 (.inr ⟨rfl, hb⟩))
    · exact .inr ⟨i, rfl, hi, (DL_step hm _ _).2 (.inr ⟨rfl, hb⟩)⟩
  · rintro (h | ⟨a, rfl, ha, hd⟩)
    · rcases (DL_step hm _ _).1 h with h | ⟨rfl, h⟩
      · exact .inl (.inl (.inl h))
      · exact .inl (.inr ⟨rfl, by rw [h, hb]⟩)
    · rcases (DL_step hm _ _).1 hd with hd | ⟨rfl, h⟩
      · exact .inl (.inl (.inr ⟨a, rfl, ha, hd⟩))
      · exact .inr ⟨by rw [← hb] at h; omega, rfl⟩
/-- What has been built has the neighbors of what came in. -/
theorem LI.done {l : List (List Int)} {m : Nat} {xs : Nat → List Int} (h : LI l l.length l.length m xs) : adjb ((List.range l.length).map xs) = adjb l := by
  have hm : ∀ c, (((List.range l.length).map xs).getD c []) = if c < l.length then xs c else [] := fun c => by
    rw [List.getD_eq_getElem?_getD, List.getElem?_map]
    by_cases e : c < l.length
    · rw [List.getElem?_range e, if_pos e]; rfl
    · rw [if_neg e, List.getElem?_eq_none (by simp; omega)]; rfl
  have hout : ∀ c, ¬ c < l.length → l.getD c [] = [] := fun c hc => by
    rw [List.getD_eq_getElem?_getD, List.getElem?_eq_none (by omega)]; rfl
  have hD : ∀ c q, DL l l.length m c q ↔ q ∈ l.getD c [] := fun c q => by
    unfold DL
    rw [hout l.length (by omega)]
    simp only [List.drop_nil, List.not_mem_nil, and_false, or_false]
    constructor
    · exact fun h => h.2
    · intro h
      refine ⟨Classical.byContradiction fun hc => ?_, h⟩
      rw [hout c hc] at h
      cases h
  funext a b
  rw [Bool.eq_iff_iff, adjb_iff, adjb_iff]
  unfold adjOf
  rw [hm, hm]
  have key : ∀ a b : Nat, ((b : Int) ∈ (if a < l.length then xs a else [])) ↔ (a < l.length ∧ ((b : Int) ∈ l.getD a [] ∨ (b < l.length ∧ (a : Int) ∈ l.getD b []))) := fun a b => by
    by_cases e : a < l.length
    · rw [if_pos e, (h a e).1]
      simp only [hD, e, true_and]
      constructor
      · rintro (h | ⟨a', h1, h2, h3⟩)
        · exact .inl h
        · obtain rfl : b = a' := by omega
          exact .inr ⟨h2, h3⟩
      · rintro (h | ⟨h2, h3⟩)
        · exact .inl h
        · exact .inr ⟨b, rfl, h2, h3⟩
    · rw [if_neg e]
      simp [e]
  rw [key, key]
  constructor
  · rintro ⟨h0, (⟨_, h1 | ⟨_, h1⟩⟩ | ⟨_, h1 | ⟨_, h1⟩⟩)⟩
    · exact ⟨h0, .inl h1⟩
    · exact ⟨h0, .inr h1⟩
    · exact ⟨h0, .inr h1⟩
    · exact ⟨h0, .inl h1⟩
  · rintro ⟨h0, h1 | h1⟩
    · refine ⟨h0, ?_⟩
      have : a < l.length := Classical.byContradiction fun hc => by rw [hout a hc] at h1; cases h1
      exact .inl ⟨this, .inl h1⟩
    · refine ⟨h0, ?_⟩
      have : b < l.length := Classical.byContradiction fun hc => by rw [hout b hc] at h1; cases h1
      exact .inr ⟨this, .inl h1⟩
end Go.Proofs.Ytljacnpadelilaa.Lists
