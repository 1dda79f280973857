/- The printed functions of the reference of layer 20 and of its laws, told by plain lists: lists' equality, width, adjacency, degrees, the next node, the colors. Condition: sizes far below 2^63. -/
import Derived.Test.YtljacnpadelilaaColor
namespace Go.Proofs.Ytljacnpadelilaa
open Go.RowKit Go.Proofs.YtljacnpadelilaaW.PrintWords Go.Proofs.YtljacnpadelilaaW.PrintLast Go.Proofs.YtljacnpadelilaaW.PrintMore
open Col PRegallocColors
theorem wrap_succ {n : Nat} (h : n < 9223372036854775807) : wrap64 ((n : Int) + 1) = ((n + 1 : Nat) : Int) := by
  rw [wrap64_in (by omega) (by omega)]
  omega
theorem rd_at (xs : List Int) (i : Nat) : rd xs (i : Int) = xs.getD i 0 := by simp [rd]
theorem rd_get {xs : List Int} {i : Nat} (h : i < xs.length) : rd xs (i : Int) = xs[i] := by simp [rd, List.getD_eq_getElem?_getD, h]

theorem ints_l0 (xs ys : List Int) (hl : xs.length = ys.length) (hm : xs.length ≤ 9223372036854775807) (d : Nat) : ∀ (k i : Nat), i ≤ xs.length → xs.length - i ≤ d → d < k → ontimelaw20_ints.l0 k xs ys xs.length i = some (decide (xs.drop i = ys.drop i)) := by
  induction d with
  | zero =>
    intro k i hi hd hk
    obtain ⟨k, rfl⟩ : ∃ m, k = m + 1 := ⟨k - 1, by omega⟩
    simp only [ontimelaw20_ints.l0]
    rw [if_neg (by omega), List.drop_of_length_le (by omega), List.drop_of_length_le (by omega)]
    rfl
  | succ d ih =>
    intro k i hi hd hk
    obtain ⟨k, rfl⟩ : ∃ m, k = m + 1 := ⟨k - 1, by omega⟩
    by_cases hlt : i < xs.length
    · have hlt2 : i < ys.length := by omega
      simp only [ontimelaw20_ints.l0]
      rw [if_pos (by omega), if_pos (by omega), if_pos (by omega), if_pos (by omega), rd_get hlt, rd_get hlt2, List.drop_eq_getElem_cons hlt, List.drop_eq_getElem_cons hlt2]
      by_cases he : xs[i] = ys[i]
      · rw [if_pos he, wrap_succ (by omega), ih k (i + 1) (by omega) (by omega) (by omega)]
        simp [he, -List.getElem_cons_drop]
      · rw [if_neg he]
        simp [he, -List.getElem_cons_drop]
    · simp only [ontimelaw20_ints.l0]
      rw [if_neg (by omega), List.drop_of_length_le (by omega), List.drop_of_length_le (by omega)]
      rfl
theorem ints_f (xs ys : List Int) (hm : xs.length ≤ 9223372036854775807) : ∃ k, ontimelaw20_ints.f k xs ys = some (decide (xs = ys)) := by
  refine ⟨xs.length + 1, ?_⟩
  unfold ontimelaw20_ints.f
  by_cases hl : xs.length = ys.length
  · rw [if_pos (by omega)]
    have := ints_l0 xs ys hl hm xs.length (xs.length + 1) 0 (Nat.zero_le _) (by omega) (by omega)
    simpa using this
  · rw [if_neg (by omega)]
    have : xs ≠ ys := fun e => hl (by rw [e])
    simp [this]

def wideB (l : List (List Int)) : Bool := decide (24 < l.length) || l.any fun r => decide (40 < r.length)
theorem wide_l0 (l : List (List Int)) (hm : l.length ≤ 9223372036854775807) (d : Nat) : ∀ (k i : Nat), i ≤ l.length → l.length - i ≤ d → d < k → ontimelaw20_wide.l0 k l l.length i = some ((l.drop i).any fun r => decide (40 < r.length)) := by
  induction d with
  | zero =>
    intro k i hi hd hk
    obtain ⟨k, rfl⟩ : ∃ m, k = m + 1 := ⟨k - 1, by omega⟩
    simp only [ontimelaw20_wide.l0]
    rw [if_neg (by omega), List.drop_of_length_le (by omega)]
    rfl
  | succ d ih =>
    intro k i hi hd hk
    obtain ⟨k, rfl⟩ : ∃ m, k = m + 1 := ⟨k - 1, by omega⟩
    by_cases hlt : i < l.length
    · simp only [ontimelaw20_wide.l0]
      have e : rd_L1 l (i : Int) = l[i] := by simp [rd_L1, List.getD_eq_getElem?_getD, hlt]
      rw [if_pos (by omega), if_pos (by omega), if_pos (by omega), e, List.drop_eq_getElem_cons hlt]
      by_cases he : 40 < l[i].length
      · rw [if_pos (by omega)]
        simp [he, -List.getElem_cons_drop]
      · rw [if_neg (by omega), wrap_succ (by omega), ih k (i + 1) (by omega) (by omega) (by omega)]
        simp [he, -List.getElem_cons_drop]
    · simp only [ontimelaw20_wide.l0]
      rw [if_neg (by omega), List.drop_of_length_le (by omega)]
      rfl
theorem wide_f (l : List (List Int)) (hm : l.length ≤ 9223372036854775807) : ∃ k, ontimelaw20_wide.f k l = some (wideB l) := by
  refine ⟨l.length + 1, ?_⟩
  unfold ontimelaw20_wide.f wideB
  by_cases h : 24 < l.length
  · rw [if_pos (by omega)]
    simp [h]
  · rw [if_neg (by omega)]
    have := wide_l0 l hm l.length (l.length + 1) 0 (Nat.zero_le _) (by omega) (by omega)
    simpa [h] using this

theorem has_l0 (xs : List Int) (x : Int) (hm : xs.length ≤ 9223372036854775807) (d : Nat) : ∀ (k i : Nat), i ≤ xs.length → xs.length - i ≤ d → d < k → ontimeref20_has.l0 k xs x i = some ((xs.drop i).contains x) := by
  induction d with
  | zero =>
    intro k i hi hd hk
    obtain ⟨k, rfl⟩ : ∃ m, k = m + 1 := ⟨k - 1, by omega⟩
    simp only [ontimeref20_has.l0]
    rw [if_neg (by omega), List.drop_of_length_le (by omega)]
    rfl
  | succ d ih =>
    intro k i hi hd hk
    obtain ⟨k, rfl⟩ : ∃ m, k = m + 1 := ⟨k - 1, by omega⟩
    by_cases hlt : i < xs.length
    · simp only [ontimeref20_has.l0]
      rw [if_pos (by omega), if_pos (by omega), rd_get hlt, List.drop_eq_getElem_cons hlt]
      by_cases he : xs[i] = x
      · rw [if_pos he]
        simp [he, -List.getElem_cons_drop]
      · rw [if_neg he, wrap_succ (by omega), ih k (i + 1) (by omega) (by omega) (by omega), List.contains_cons]
        have : (x == xs[i]) = false := by rw [beq_eq_false_iff_ne]; exact Ne.symm he
        rw [this]
        rfl
    · simp only [ontimeref20_has.l0]
      rw [if_neg (by omega), List.drop_of_length_le (by omega)]
      rfl
theorem has_f (xs : List Int) (x : Int) (k : Nat) (hm : xs.length ≤ 9223372036854775807) (hk : xs.length < k) : ontimeref20_has.f k xs x = some (xs.contains x) := by
  unfold ontimeref20_has.f
  have := has_l0 xs x hm xs.length k 0 (Nat.zero_le _) (by omega) hk
  simpa using this

/-- All lists of neighbors are no longer than M. -/
def LeM (l : List (List Int)) (M : Nat) : Prop := M < 1000000000 ∧ l.length < 1000000000 ∧ ∀ i, (l.getD i []).length ≤ M
theorem adjacent_f {l : List (List Int)} {M : Nat} (h : LeM l M) (a b k : Nat) (ha : a < l.length) (hb : b < l.length) (hk : M < k) : ontimeref20_Adjacent.f k l a b = some (adjb l a b) := by
  have e : ∀ i : Nat, rd_L1 l (i : Int) = l.getD i [] := fun i => by simp [rd_L1]
  unfold ontimeref20_Adjacent.f adjb
  by_cases hab : a = b
  · subst hab
    rw [if_pos rfl]
    simp
  · rw [if_neg (by omega), if_pos (by omega), if_pos (by omega), e, has_f _ _ _ (by have := h.2.2 a; have := h.1; omega) (by have := h.2.2 a; omega)]
    simp only [Option.bind_some]
    have : (a != b) = true := by simp [hab]
    rw [this, Bool.true_and]
    by_cases hc : (l.getD a []).contains (b : Int) = true
    · rw [if_pos hc, hc]
      rfl
    · rw [if_neg hc, if_pos (by omega), if_pos (by omega), e, has_f _ _ _ (by have := h.2.2 b; have := h.1; omega) (by have := h.2.2 b; omega)]
      simp only [Option.bind_some]
      have : (l.getD a []).contains (b : Int) = false := by simpa using hc
      rw [this, Bool.false_or]

/-- Which nodes are gone, as a row. -/
def goneL (n : Nat) (gone : Nat → Bool) : List Bool := (List.range n).map gone
theorem rdOf_gone (n : Nat) (gone : Nat → Bool) (i : Nat) (h : i < n) : rdOf false (goneL n gone) (i : Int) = gone i := by
  simp [rdOf, goneL, List.getD_eq_getElem?_getD, h]
def degTo (adj : Nat → Nat → Bool) (gone : Nat → Bool) (a i : Nat) : Nat := ((List.range i).filter fun k => adj a k && !gone k).length
theorem degTo_le (adj : Nat → Nat → Bool) (gone : Nat → Bool) (a i : Nat) : degTo adj gone a i ≤ i := by
  unfold degTo
  have := List.length_filter_le (fun k => adj a k && !gone k) (List.range i)
  rwa [List.length_range] at this
theorem degTo_succ (adj : Nat → Nat → Bool) (gone : Nat → Bool) (a i : Nat) : degTo adj gone a (i + 1) = degTo adj gone a i + if adj a i && !gone i then 1 else 0 := by
  unfold degTo
  rw [List.range_succ, List.filter_append, List.length_append]
  by_cases h : (adj a i && !gone i) = true
  · simp [h]
  · simp [h]
theorem degree_l0 {l : List (List Int)} {M : Nat} (h : LeM l M) (gone : Nat → Bool) (a : Nat) (ha : a < l.length) (d : Nat) : ∀ (k i : Nat), i ≤ l.length → l.length - i ≤ d → M + d < k →
    ontimeref20_degree.l0 k l (goneL l.length gone) a (degTo (adjb l) gone a i) i = some ((degTo (adjb l) gone a l.length : Nat) : Int) := by
  have hn := h.2.1
  induction d with
  | zero =>
    intro k i hi hd hk
    obtain ⟨k, rfl⟩ : ∃ m, k = m + 1 := ⟨k - 1, by omega⟩
    simp only [ontimeref20_degree.l0]
    have : i = l.length := by omega
    rw [if_neg (by omega), this]
  | succ d ih =>
    intro k i hi hd hk
    obtain ⟨k, rfl⟩ : ∃ m, k = m + 1 := ⟨k - 1, by omega⟩
    by_cases hlt : i < l.length
    · simp only [ontimeref20_degree.l0]
      have hle := degTo_le (adjb l) gone a i
      rw [if_pos (by omega), if_pos (by omega), if_pos (by simp [goneL]; omega), rdOf_gone _ _ _ hlt]
      have hs := degTo_succ (adjb l) gone a i
      have ih' := ih k (i + 1) (by omega) (by omega) (by omega)
      by_cases hg : gone i = true
      · rw [if_pos hg, wrap_succ (by omega), ← ih', hs]
        simp [hg]
      · rw [if_neg hg, adjacent_f h a i k ha hlt (by omega)]
        simp only [Option.bind_some]
        by_cases hadj : adjb l a i = true
        · rw [if_pos hadj, wrap_succ (by omega), wrap_succ (by omega), ← ih', hs]
          simp [hg, hadj]
        · rw [if_neg hadj, wrap_succ (by omega), ← ih', hs]
          simp [hadj]
    · simp only [ontimeref20_degree.l0]
      have : i = l.length := by omega
      rw [if_neg (by omega), this]
theorem degree_f {l : List (List Int)} {M : Nat} (h : LeM l M) (gone : Nat → Bool) (a k : Nat) (ha : a < l.length) (hk : M + l.length < k) : ontimeref20_degree.f k l (goneL l.length gone) a = some ((deg l.length (adjb l) gone a : Nat) : Int) := by
  unfold ontimeref20_degree.f
  exact degree_l0 h gone a ha l.length k 0 (Nat.zero_le _) (by omega) (by omega)

theorem pickTo_low {D : Nat → Int} {gone : Nat → Bool} {c : Int} {i : Nat} {p : Nat} (h : pickTo D gone c i = (p : Int)) (hd : D p < c) (m : Nat) : pickTo D gone c (i + m) = (p : Int) := by
  induction m with
  | zero => exact h
  | succ m ih =>
    rw [← Nat.add_assoc, pickTo_succ, ih]
    by_cases hg : gone (i + m) = true
    · unfold pickStep
      rw [if_pos hg]
    · rw [pickStep_at (by simpa using hg)]
      split
      · rw [if_neg (by omega)]
      · rw [if_neg (by omega)]
theorem next_l0 {l : List (List Int)} {M : Nat} (h : LeM l M) (gone : Nat → Bool) (c : Int) (d : Nat) : ∀ (k i : Nat) (best most : Int), i ≤ l.length → l.length - i ≤ d → M + l.length + d < k →
    pickTo (fun j => ((deg l.length (adjb l) gone j : Nat) : Int)) gone c i = best → ((best = -1 ∧ most = -1) ∨ (∃ p : Nat, best = p ∧ most = ((deg l.length (adjb l) gone p : Nat) : Int) ∧ c ≤ most)) →
    ontimeref20_next.l0 k l (goneL l.length gone) c best most i = some (pickTo (fun j => ((deg l.length (adjb l) gone j : Nat) : Int)) gone c l.length) := by
  have hn := h.2.1
  induction d with
  | zero =>
    intro k i best most hi hd hk hp hm
    obtain ⟨k, rfl⟩ : ∃ m, k = m + 1 := ⟨k - 1, by omega⟩
    simp only [ontimeref20_next.l0]
    have : i = l.length := by omega
    rw [if_neg (by omega), ← hp, this]
  | succ d ih =>
    intro k i best most hi hd hk hp hm
    obtain ⟨k, rfl⟩ : ∃ m, k = m + 1 := ⟨k - 1, by omega⟩
    by_cases hlt : i < l.length
    · simp only [ontimeref20_next.l0]
      rw [if_pos (by omega), if_pos (by omega), if_pos (by simp [goneL]; omega), rdOf_gone _ _ _ hlt]
      have hs := pickTo_succ (fun j => ((deg l.length (adjb l) gone j : Nat) : Int)) gone c i
      by_cases hg : gone i = true
      · rw [if_pos hg, wrap_succ (by omega)]
        refine ih k (i + 1) best most (by omega) (by omega) (by omega) ?_ hm
        rw [hs, hp]
        unfold pickStep
        rw [if_pos hg]
      · have hg' : gone i = false := by simpa using hg
        rw [if_neg hg, degree_f h gone i k hlt (by omega)]
        simp only [Option.bind_some]
        obtain ⟨D, hD⟩ : ∃ D : Nat → Int, D = fun j => ((deg l.length (adjb l) gone j : Nat) : Int) := ⟨_, rfl⟩
        have hD0 : ∀ j, 0 ≤ D j := fun j => by rw [hD]; simp
        have e : ∀ j, ((deg l.length (adjb l) gone j : Nat) : Int) = D j := fun j => by rw [hD]
        rw [← hD] at hp hs ⊢
        simp only [e] at hm ⊢
        rw [hp] at hs
        by_cases hlow : D i < c
        · rw [if_pos hlow]
          have hnew : pickTo D gone c (i + 1) = (i : Int) := by
            rw [hs]
            rcases hm with ⟨rfl, rfl⟩ | ⟨p, rfl, rfl, hc⟩
            · unfold pickStep
              rw [if_neg hg, if_pos hlow, if_pos (by omega)]
            · rw [pickStep_at hg', if_pos hlow, if_pos hc]
          have := pickTo_low hnew hlow (l.length - (i + 1))
          rw [show i + 1 + (l.length - (i + 1)) = l.length by omega] at this
          rw [this]
        · rw [if_neg hlow]
          by_cases hmore : D i > most
          · rw [if_pos hmore, wrap_succ (by omega)]
            rw [hD] at hs ⊢
            refine ih k (i + 1) i _ (by omega) (by omega) (by omega) ?_ (.inr ⟨i, rfl, rfl, by simp only [e]; omega⟩)
            rw [hs, ← hD]
            rcases hm with ⟨rfl, rfl⟩ | ⟨p, rfl, rfl, hc⟩
            · unfold pickStep
              rw [if_neg hg, if_neg hlow, if_pos (by omega)]
            · rw [pickStep_at hg', if_neg hlow, if_pos ⟨hc, hmore⟩]
          · rw [if_neg hmore, wrap_succ (by omega), hD]
            refine ih k (i + 1) best most (by omega) (by omega) (by omega) ?_ ?_
            · rw [← hD, hs]
              rcases hm with ⟨rfl, rfl⟩ | ⟨p, rfl, rfl, hc⟩
              · have := hD0 i
                omega
              · rw [pickStep_at hg', if_neg hlow, if_neg (by omega)]
            · rcases hm with hm | ⟨p, h1, h2, h3⟩
              · exact .inl hm
              · exact .inr ⟨p, h1, by rw [e]; exact h2, h3⟩
    · simp only [ontimeref20_next.l0]
      have : i = l.length := by omega
      rw [if_neg (by omega), ← hp, this]
theorem next_f {l : List (List Int)} {M : Nat} (h : LeM l M) (gone : Nat → Bool) (c : Int) (k : Nat) (hk : M + 2 * l.length < k) :
    ontimeref20_next.f k l (goneL l.length gone) c = some (pickTo (fun j => ((deg l.length (adjb l) gone j : Nat) : Int)) gone c l.length) := by
  unfold ontimeref20_next.f
  exact next_l0 h gone c l.length k 0 (-1) (-1) (Nat.zero_le _) (by omega) (by omega) rfl (.inl ⟨rfl, rfl⟩)

theorem free_l0 {l : List (List Int)} {M : Nat} (h : LeM l M) (out : List Int) (hout : out.length = l.length) (a : Nat) (ha : a < l.length) (c : Int) (d : Nat) : ∀ (k i : Nat), i ≤ l.length → l.length - i ≤ d → M + d < k →
    ontimeref20_free.l0 k l out a c i = some (!((List.range l.length).drop i).any fun j => adjb l a j && out.getD j (-1) == c) := by
  have hn := h.2.1
  induction d with
  | zero =>
    intro k i hi hd hk
    obtain ⟨k, rfl⟩ : ∃ m, k = m + 1 := ⟨k - 1, by omega⟩
    simp only [ontimeref20_free.l0]
    rw [if_neg (by omega), List.drop_of_length_le (by simp; omega)]
    rfl
  | succ d ih =>
    intro k i hi hd hk
    obtain ⟨k, rfl⟩ : ∃ m, k = m + 1 := ⟨k - 1, by omega⟩
    by_cases hlt : i < l.length
    · have hlo : i < out.length := by omega
      simp only [ontimeref20_free.l0]
      have hg : out.getD i (-1) = out[i] := by simp [List.getD_eq_getElem?_getD, hlo]
      rw [if_pos (by omega), if_pos (by omega), if_pos (by omega), rd_get hlo, List.drop_eq_getElem_cons (by simpa using hlt), List.any_cons, List.getElem_range, hg]
      by_cases he : out[i] = c
      · rw [if_pos he, adjacent_f h a i k ha hlt (by omega)]
        simp only [Option.bind_some]
        have : (out[i] == c) = true := by simp [he]
        rw [this, Bool.and_true]
        by_cases hadj : adjb l a i = true
        · rw [if_pos hadj, hadj]
          rfl
        · have hadj' : adjb l a i = false := by simpa using hadj
          rw [if_neg hadj, wrap_succ (by omega), ih k (i + 1) (by omega) (by omega) (by omega), hadj', Bool.false_or]
      · have : (out[i] == c) = false := by simp [he]
        rw [if_neg he, wrap_succ (by omega), ih k (i + 1) (by omega) (by omega) (by omega), this, Bool.and_false, Bool.false_or]
    · simp only [ontimeref20_free.l0]
      rw [if_neg (by omega), List.drop_of_length_le (by simp; omega)]
      rfl
theorem free_f {l : List (List Int)} {M : Nat} (h : LeM l M) (out : List Int) (hout : out.length = l.length) (a c k : Nat) (ha : a < l.length) (hk : M + l.length < k) : ontimeref20_free.f k l out a c = some (!taken l.length (adjb l) out a c) := by
  unfold ontimeref20_free.f taken
  have := free_l0 h out hout a ha c l.length k 0 (Nat.zero_le _) (by omega) (by omega)
  simpa using this

theorem goneL_set (n : Nat) (order : List Nat) (p : Nat) : (goneL n (goneIn order)).set p true = goneL n (goneIn (order ++ [p])) := by
  unfold goneL
  rw [map_range_set]
  apply map_range_congr
  intro j _
  by_cases e : j = p
  · subst e; simp [goneIn]
  · rw [if_neg e]; simp [goneIn, e]
theorem replicate_set (i n : Nat) (h : i < n) : (List.replicate i (-1) ++ List.replicate (n - i) (0 : Int)).set i (-1) = List.replicate (i + 1) (-1) ++ List.replicate (n - (i + 1)) 0 := by
  apply List.ext_getElem
  · simp; omega
  · intro j h1 h2
    rw [List.getElem_set]
    by_cases e : i = j
    · subst e
      rw [if_pos rfl, List.getElem_append_left (by simp)]
      simp
    · rw [if_neg e]
      by_cases e2 : j < i
      · rw [List.getElem_append_left (by simpa using e2), List.getElem_append_left (by simp; omega)]
        simp
      · rw [List.getElem_append_right (by simp; omega), List.getElem_append_right (by simp; omega)]
        simp
section
variable {l : List (List Int)} {M : Nat} (c : Nat)
/-- The loop over the colors of node a, from color x on. -/
theorem ref_l3 (h : LeM l M) (hc : c < 1000000000) (stack : List Int) (t : Int) (a : Nat) (ha : a < l.length) (out : List Int) (hout : out.length = l.length) (hneg : out.getD a (-1) = -1) (r : List Int) (k0 : Nat)
    (hrest : ∀ k, k0 < k → ontimeref20_Color.l2 k l c stack (colorStep l.length (adjb l) c out a) (wrap64 (t - 1)) = some r) (d : Nat) :
    ∀ (k x : Nat), x ≤ c → c - x ≤ d → k0 + M + l.length + 10 + 2 * d < k → (∀ x', x' < x → taken l.length (adjb l) out a x' = true) → ontimeref20_Color.l3 k l c stack out t a x = some r := by
  induction d with
  | zero =>
    intro k x hx hd hk ht
    obtain ⟨k, rfl⟩ : ∃ m, k = m + 2 := ⟨k - 2, by omega⟩
    have : x = c := by omega
    subst this
    simp only [ontimeref20_Color.l3]
    rw [if_neg (by omega)]
    simp only [ontimeref20_Color.j5]
    rw [if_neg (by simp)]
    have e : colorStep l.length (adjb l) x out a = out := by
      unfold colorStep
      rw [firstFree_none ht]
    rw [e] at hrest
    exact hrest _ (by omega)
  | succ d ih =>
    intro k x hx hd hk ht
    obtain ⟨k, rfl⟩ : ∃ m, k = m + 4 := ⟨k - 4, by omega⟩
    have hla : a < out.length := by omega
    by_cases hlt : x < c
    · simp only [ontimeref20_Color.l3]
      have hr : rd out (a : Int) = -1 := by
        rw [rd_get hla]
        simpa [List.getD_eq_getElem?_getD, hla] using hneg
      rw [if_pos (by omega), if_pos (by omega), if_pos (by omega), hr]
      rw [show decide ((-1 : Int) < 0) = true from rfl]
      simp only [ontimeref20_Color.j5]
      rw [if_pos trivial, free_f h out hout a x _ ha (by omega)]
      simp only [Option.bind_some]
      by_cases htk : taken l.length (adjb l) out a x = true
      · rw [htk, if_neg (by simp), wrap_succ (by omega)]
        refine ih (k + 2) (x + 1) (by omega) (by omega) (by omega) ?_
        intro x' hx'
        rcases Nat.lt_succ_iff_lt_or_eq.1 hx' with h | rfl
        · exact ht x' h
        · exact htk
      · have htk' : taken l.length (adjb l) out a x = false := by simpa using htk
        have e : colorStep l.length (adjb l) c out a = out.set a x := by
          unfold colorStep
          rw [firstFree_some hlt htk' ht]
        rw [htk', Bool.not_false, if_pos rfl, if_pos (by omega), if_pos (by omega), wrap_succ (by omega), Int.toNat_natCast]
        rw [e] at hrest
        -- the color stands: the next round of the loop ends it
        simp only [ontimeref20_Color.l3]
        have hr2 : rd (out.set a (x : Int)) (a : Int) = (x : Int) := by
          rw [rd_get (by simpa using hla)]
          simp
        by_cases hx1 : x + 1 < c
        · rw [if_pos (by omega), if_pos (by omega), if_pos (by simp; omega), hr2]
          have : decide ((x : Int) < 0) = false := by simp
          rw [this]
          simp only [ontimeref20_Color.j5]
          rw [if_neg (by simp)]
          exact hrest _ (by omega)
        · rw [if_neg (by omega)]
          simp only [ontimeref20_Color.j5]
          rw [if_neg (by simp)]
          exact hrest _ (by omega)
    · have : x = c := by omega
      subst this
      simp only [ontimeref20_Color.l3]
      rw [if_neg (by omega)]
      simp only [ontimeref20_Color.j5]
      rw [if_neg (by simp)]
      have e : colorStep l.length (adjb l) x out a = out := by
        unfold colorStep
        rw [firstFree_none ht]
      rw [e] at hrest
      exact hrest _ (by omega)
end

theorem selectL_neg (n : Nat) (adj : Nat → Nat → Bool) (cs : Nat) (l : List Nat) (a : Nat) (ha : a ∉ l) : (selectL n adj cs l).getD a (-1) = -1 := by
  unfold selectL
  have : ∀ (l : List Nat) (out : List Int), a ∉ l → (l.foldl (colorStep n adj cs) out).getD a (-1) = out.getD a (-1) := by
    intro l
    induction l with
    | nil => intro out _; rfl
    | cons b l ih =>
      intro out hb
      rw [List.foldl_cons, ih _ (fun h => hb (List.mem_cons_of_mem _ h))]
      unfold colorStep
      split
      · rw [List.getD_eq_getElem?_getD, List.getD_eq_getElem?_getD, List.getElem?_set_ne (fun e => hb (by rw [e]; exact List.mem_cons_self))]
      · rfl
  rw [this l _ ha]
  by_cases h : a < n
  · simp [List.getD_eq_getElem?_getD, h]
  · simp [List.getD_eq_getElem?_getD, h]
/-- The nodes are taken from the stack: t + 1 are left. -/
theorem ref_l2 {l : List (List Int)} {M : Nat} (h : LeM l M) (c : Nat) (hc : c < 1000000000) (stack : List Nat) (hs : stack.length = l.length) (hn : ∀ a ∈ stack, a < l.length) (hnd : stack.Nodup) (t : Nat) :
    ∀ (k : Nat), t ≤ stack.length → (t + 1) * (M + l.length + 20 + 2 * c) < k →
    ontimeref20_Color.l2 k l c (stack.map fun x : Nat => (x : Int)) (selectL l.length (adjb l) c (stack.drop t).reverse) ((t : Int) - 1) = some (selectL l.length (adjb l) c stack.reverse) := by
  induction t with
  | zero =>
    intro k _ hk
    obtain ⟨k, rfl⟩ : ∃ m, k = m + 1 := ⟨k - 1, by omega⟩
    simp only [ontimeref20_Color.l2]
    rw [if_neg (by omega), List.drop_zero]
  | succ t ih =>
    intro k ht hk
    have hM := h.1
    have hL := h.2.1
    have e1 : (t + 1 + 1) * (M + l.length + 20 + 2 * c) = (t + 1) * (M + l.length + 20 + 2 * c) + (M + l.length + 20 + 2 * c) := by rw [Nat.add_mul (t + 1) 1, Nat.one_mul]
    obtain ⟨k, rfl⟩ : ∃ m, k = m + 1 := ⟨k - 1, by omega⟩
    have hlt : t < stack.length := by omega
    simp only [ontimeref20_Color.l2]
    have e2 : ((t + 1 : Nat) : Int) - 1 = (t : Int) := by omega
    have e3 : rd (stack.map fun x : Nat => (x : Int)) (t : Int) = (stack[t] : Int) := by
      rw [rd_get (by simpa using hlt)]
      simp
    rw [e2, if_pos (by omega), if_pos (by omega), if_pos (by rw [List.length_map]; omega), e3]
    have hmem : stack[t] ∈ stack := List.getElem_mem _
    have hdrop : stack.drop t = stack[t] :: stack.drop (t + 1) := List.drop_eq_getElem_cons hlt
    have hnot : stack[t] ∉ stack.drop (t + 1) := by
      have : (stack.drop t).Nodup := hnd.sublist (List.drop_sublist _ _)
      rw [hdrop] at this
      exact (List.nodup_cons.1 this).1
    have hstep : selectL l.length (adjb l) c (stack.drop t).reverse = colorStep l.length (adjb l) c (selectL l.length (adjb l) c (stack.drop (t + 1)).reverse) stack[t] := by
      rw [hdrop, List.reverse_cons]
      unfold selectL
      rw [List.foldl_append]
      rfl
    refine ref_l3 c h hc _ (t : Int) stack[t] (hn _ hmem) _ (length_selectL _ _ _ _) (selectL_neg _ _ _ _ _ (by rw [List.mem_reverse]; exact hnot)) _ ((t + 1) * (M + l.length + 20 + 2 * c)) ?_ c k 0 (Nat.zero_le _) (by omega) (by omega) (fun _ hx => absurd hx (Nat.not_lt_zero _))
    intro k' hk'
    rw [← hstep, wrap64_in (by omega) (by omega)]
    exact ih k' (by omega) hk'
theorem ref_l1 (l : List (List Int)) (c : Nat) (stack : List Int) (hl : l.length < 1000000000) (r : List Int) (k0 : Nat) (hrest : ∀ k, k0 < k → ontimeref20_Color.l2 k l c stack (List.replicate l.length (-1)) ((l.length : Int) - 1) = some r) (d : Nat) :
    ∀ (k i : Nat), i ≤ l.length → l.length - i ≤ d → k0 + d + 1 < k → ontimeref20_Color.l1 k l c l.length stack (List.replicate i (-1) ++ List.replicate (l.length - i) 0) i = some r := by
  induction d with
  | zero =>
    intro k i hi hd hk
    obtain ⟨k, rfl⟩ : ∃ m, k = m + 1 := ⟨k - 1, by omega⟩
    simp only [ontimeref20_Color.l1]
    have : i = l.length := by omega
    subst this
    rw [if_neg (by omega), wrap64_in (by omega) (by omega)]
    simpa using hrest k (by omega)
  | succ d ih =>
    intro k i hi hd hk
    obtain ⟨k, rfl⟩ : ∃ m, k = m + 1 := ⟨k - 1, by omega⟩
    by_cases hlt : i < l.length
    · simp only [ontimeref20_Color.l1]
      rw [if_pos (by omega), if_pos (by omega), if_pos (by simp; omega), wrap_succ (by omega), Int.toNat_natCast, replicate_set _ _ hlt]
      exact ih k (i + 1) (by omega) (by omega) (by omega)
    · simp only [ontimeref20_Color.l1]
      have : i = l.length := by omega
      subst this
      rw [if_neg (by omega), wrap64_in (by omega) (by omega)]
      simpa using hrest k (by omega)
theorem ref_l0 {l : List (List Int)} {M : Nat} (h : LeM l M) (c : Nat) (r : List Int) (k0 : Nat)
    (hrest : ∀ k, k0 < k → ontimeref20_Color.l1 k l c l.length ((removeTo l.length (adjb l) c l.length).map fun x : Nat => (x : Int)) (List.replicate l.length 0) 0 = some r) (d : Nat) :
    ∀ (k t : Nat), t ≤ l.length → l.length - t ≤ d → k0 + d + M + 2 * l.length + 2 < k →
    ontimeref20_Color.l0 k l c l.length (goneL l.length (goneIn (removeTo l.length (adjb l) c t))) ((removeTo l.length (adjb l) c t).map fun x : Nat => (x : Int)) = some r := by
  have hL := h.2.1
  have hend : ∀ (k : Nat), k0 + 1 < k → ontimeref20_Color.l0 k l c l.length (goneL l.length (goneIn (removeTo l.length (adjb l) c l.length))) ((removeTo l.length (adjb l) c l.length).map fun x : Nat => (x : Int)) = some r := by
    intro k hk
    obtain ⟨k, rfl⟩ : ∃ m, k = m + 1 := ⟨k - 1, by omega⟩
    simp only [ontimeref20_Color.l0]
    rw [if_neg (by rw [List.length_map, length_removeTo]; omega), if_pos (by omega), if_pos (by omega), Int.toNat_natCast]
    exact hrest k (by omega)
  induction d with
  | zero =>
    intro k t ht hd hk
    have : t = l.length := by omega
    subst this
    exact hend k (by omega)
  | succ d ih =>
    intro k t ht hd hk
    by_cases hlt : t < l.length
    · obtain ⟨k, rfl⟩ : ∃ m, k = m + 1 := ⟨k - 1, by omega⟩
      obtain ⟨p1, p2, p3⟩ := pick_lt (n := l.length) (adj := adjb l) (c := c) hlt
      have hpv : pickTo (fun j => ((deg l.length (adjb l) (goneIn (removeTo l.length (adjb l) c t)) j : Nat) : Int)) (goneIn (removeTo l.length (adjb l) c t)) c l.length = (pick l.length (adjb l) c (removeTo l.length (adjb l) c t) : Int) := by
        unfold pick degIn
        unfold degIn at p1
        omega
      simp only [ontimeref20_Color.l0]
      rw [if_pos (by rw [List.length_map, length_removeTo]; omega), next_f h _ c k (by omega)]
      simp only [Option.bind_some]
      rw [hpv, if_pos (by omega), if_pos (by simp [goneL]; omega), if_pos (by rw [List.length_map, length_removeTo]; omega), Int.toNat_natCast, goneL_set]
      have e : (removeTo l.length (adjb l) c t).map (fun x : Nat => (x : Int)) ++ [(pick l.length (adjb l) c (removeTo l.length (adjb l) c t) : Int)] = (removeTo l.length (adjb l) c (t + 1)).map fun x : Nat => (x : Int) := by
        simp [removeTo]
      rw [e]
      exact ih k (t + 1) (by omega) (by omega) (by omega)
    · have : t = l.length := by omega
      subst this
      exact hend k (by omega)
/-- The reference's colors. -/
theorem refColor_f {l : List (List Int)} {M : Nat} (h : LeM l M) (colors : Int) (hc : colors < 1000000000) : ∃ k, ontimeref20_Color.f k l colors = some (colorL l.length (adjb l) colors) := by
  have hL := h.2.1
  obtain ⟨c, hcc⟩ : ∃ c : Nat, (c : Int) = max colors 0 := ⟨(max colors 0).toNat, by omega⟩
  have e : colorL l.length (adjb l) colors = selectL l.length (adjb l) c (removeTo l.length (adjb l) c l.length).reverse := by
    unfold colorL
    rw [← hcc, Int.toNat_natCast]
  obtain ⟨n1, n2⟩ := removeTo_nodup l.length (adjb l) c l.length (Nat.le_refl _)
  have h2 := ref_l2 h c (by omega) (removeTo l.length (adjb l) c l.length) (length_removeTo _ _ _ _) n2 n1 l.length
  rw [length_removeTo] at h2
  have h1 := ref_l1 l c ((removeTo l.length (adjb l) c l.length).map fun x : Nat => (x : Int)) hL (selectL l.length (adjb l) c (removeTo l.length (adjb l) c l.length).reverse) ((l.length + 1) * (M + l.length + 20 + 2 * c)) (fun k hk => by
    have := h2 k (Nat.le_refl _) hk
    rw [List.drop_of_length_le (by rw [length_removeTo]; exact Nat.le_refl _)] at this
    simpa [selectL] using this) l.length
  have h0 := ref_l0 h c (selectL l.length (adjb l) c (removeTo l.length (adjb l) c l.length).reverse) ((l.length + 1) * (M + l.length + 20 + 2 * c) + l.length + 1) (fun k hk => by
    have := h1 k 0 (Nat.zero_le _) (by omega) (by omega)
    simpa using this) l.length
  obtain ⟨K, hK⟩ : ∃ K, K = (l.length + 1) * (M + l.length + 20 + 2 * c) + l.length + 1 + l.length + M + 2 * l.length + 3 := ⟨_, rfl⟩
  refine ⟨K + 1, ?_⟩
  have hj : ontimeref20_Color.j0 (K + 1) l c = some (colorL l.length (adjb l) colors) := by
    simp only [ontimeref20_Color.j0]
    rw [if_pos (by omega), if_pos (by omega), e]
    have := h0 K 0 (Nat.zero_le _) (by omega) (by omega)
    have e2 : goneL l.length (goneIn (removeTo l.length (adjb l) (c : Int) 0)) = List.replicate ((l.length : Int)).toNat false := by
      rw [Int.toNat_natCast]
      apply List.ext_getElem
      · simp [goneL]
      · intro i _ _
        simp [goneL, goneIn, removeTo]
    rw [e2] at this
    exact this
  unfold ontimeref20_Color.f
  by_cases hneg : colors < 0
  · rw [if_pos hneg]
    have : (c : Int) = 0 := by omega
    rw [this] at hj
    exact hj
  · rw [if_neg hneg]
    have : (c : Int) = colors := by omega
    rw [this] at hj
    exact hj
end Go.Proofs.Ytljacnpadelilaa
