/- Coloring in plain lists and numbers: the removal and the selection. No program in sight. Condition: none. -/
namespace Go.Proofs.Ytljacnpadelilaa.Col

/-- How many neighbors of i have not been removed. -/
def deg (n : Nat) (adj : Nat → Nat → Bool) (gone : Nat → Bool) (i : Nat) : Nat := ((List.range n).filter fun k => adj i k && !gone k).length
/-- One step of the search for the node to be removed; p: the best so far, or -1. -/
def pickStep (d : Nat → Int) (gone : Nat → Bool) (c : Int) (p : Int) (i : Nat) : Int :=
  if gone i then p else if d i < c then (if p < 0 ∨ d p.toNat ≥ c then i else p) else (if p < 0 ∨ (d p.toNat ≥ c ∧ d i > d p.toNat) then i else p)
def pickTo (d : Nat → Int) (gone : Nat → Bool) (c : Int) (k : Nat) : Int := (List.range k).foldl (pickStep d gone c) (-1)
def goneIn (order : List Nat) (i : Nat) : Bool := order.contains i
def degIn (n : Nat) (adj : Nat → Nat → Bool) (order : List Nat) (i : Nat) : Int := (deg n adj (goneIn order) i : Nat)
def pick (n : Nat) (adj : Nat → Nat → Bool) (c : Int) (order : List Nat) : Nat := (pickTo (degIn n adj order) (goneIn order) c n).toNat
/-- The first t nodes that are removed. -/
def removeTo (n : Nat) (adj : Nat → Nat → Bool) (c : Int) : Nat → List Nat
  | 0 => []
  | t + 1 => removeTo n adj c t ++ [pick n adj c (removeTo n adj c t)]

theorem pickStep_at {d : Nat → Int} {gone : Nat → Bool} {c : Int} {i : Nat} (hg : gone i = false) (q : Nat) :
    pickStep d gone c (q : Int) i = if d i < c then (if d q ≥ c then (i : Int) else q) else (if d q ≥ c ∧ d i > d q then (i : Int) else q) := by
  unfold pickStep
  rw [if_neg (by simp [hg]), Int.toNat_natCast]
  have : ¬ (q : Int) < 0 := by omega
  simp only [this, false_or]
theorem pickTo_zero (d : Nat → Int) (gone : Nat → Bool) (c : Int) : pickTo d gone c 0 = -1 := rfl
theorem pickTo_succ (d : Nat → Int) (gone : Nat → Bool) (c : Int) (k : Nat) : pickTo d gone c (k + 1) = pickStep d gone c (pickTo d gone c k) k := by
  simp [pickTo, List.range_succ]
theorem pickTo_range (d : Nat → Int) (gone : Nat → Bool) (c : Int) (k : Nat) : pickTo d gone c k = -1 ∨ (0 ≤ pickTo d gone c k ∧ pickTo d gone c k < k ∧ gone (pickTo d gone c k).toNat = false) := by
  induction k with
  | zero => exact .inl rfl
  | succ k ih =>
    rw [pickTo_succ]
    unfold pickStep
    by_cases hg : gone k = true
    · rw [if_pos hg]
      rcases ih with ih | ih
      · exact .inl ih
      · exact .inr ⟨ih.1, by omega, ih.2.2⟩
    · have hk : 0 ≤ (k : Int) ∧ (k : Int) < (k + 1 : Nat) ∧ gone ((k : Int)).toNat = false := ⟨by omega, by omega, by simpa using hg⟩
      rw [if_neg hg]
      repeat' split
      all_goals first
        | exact .inr hk
        | (rcases ih with ih | ih
           · exact .inl ih
           · exact .inr ⟨ih.1, by omega, ih.2.2⟩)
/-- A node is found if one is left. -/
theorem pickTo_found (d : Nat → Int) (gone : Nat → Bool) (c : Int) (k i : Nat) (hi : i < k) (hg : gone i = false) : 0 ≤ pickTo d gone c k := by
  induction k with
  | zero => omega
  | succ k ih =>
    rw [pickTo_succ]
    unfold pickStep
    by_cases hik : i = k
    · subst hik
      rw [if_neg (by simp [hg])]
      split <;> split <;> first | omega | (rename_i h; omega)
    · have h0 := ih (by omega)
      split
      · exact h0
      · split <;> split <;> omega

theorem length_removeTo (n : Nat) (adj : Nat → Nat → Bool) (c : Int) (t : Nat) : (removeTo n adj c t).length = t := by
  induction t with
  | zero => rfl
  | succ t ih => simp [removeTo, ih]
/-- Each node of the first t is a node, and none stands twice. -/
theorem removeTo_nodup (n : Nat) (adj : Nat → Nat → Bool) (c : Int) (t : Nat) (ht : t ≤ n) : (removeTo n adj c t).Nodup ∧ ∀ i ∈ removeTo n adj c t, i < n := by
  induction t with
  | zero => exact ⟨List.nodup_nil, fun i h => by cases h⟩
  | succ t ih =>
    obtain ⟨h1, h2⟩ := ih (by omega)
    -- some node is left
    have hleft : ∃ i, i < n ∧ goneIn (removeTo n adj c t) i = false := by
      refine Classical.byContradiction fun hno => ?_
      have hall : ∀ i ∈ List.range n, i ∈ removeTo n adj c t := fun i hi => by
        have hi := List.mem_range.1 hi
        cases hg : goneIn (removeTo n adj c t) i
        · exact absurd ⟨i, hi, hg⟩ hno
        · simpa [goneIn] using hg
      have := (List.nodup_range (n := n)).length_le_of_subset hall
      rw [List.length_range, length_removeTo] at this
      omega
    obtain ⟨i, hi, hg⟩ := hleft
    have hf := pickTo_found (degIn n adj (removeTo n adj c t)) (goneIn (removeTo n adj c t)) c n i hi hg
    rcases pickTo_range (degIn n adj (removeTo n adj c t)) (goneIn (removeTo n adj c t)) c n with hr | ⟨r1, r2, r3⟩
    · omega
    · have hp : pick n adj c (removeTo n adj c t) ∉ removeTo n adj c t := by
        intro h
        have : goneIn (removeTo n adj c t) (pick n adj c (removeTo n adj c t)) = true := by simpa [goneIn] using h
        unfold pick at this
        rw [r3] at this
        cases this
      have hpn : pick n adj c (removeTo n adj c t) < n := by unfold pick; omega
      constructor
      · simp only [removeTo]
        rw [List.nodup_append]
        refine ⟨h1, by simp, ?_⟩
        intro a ha b hb e
        simp only [List.mem_singleton] at hb
        exact hp (by rw [← hb, ← e]; exact ha)
      · intro j hj
        simp only [removeTo, List.mem_append, List.mem_singleton] at hj
        rcases hj with hj | rfl
        · exact h2 j hj
        · exact hpn
theorem pick_lt {n : Nat} {adj : Nat → Nat → Bool} {c : Int} {t : Nat} (ht : t < n) : 0 ≤ pickTo (degIn n adj (removeTo n adj c t)) (goneIn (removeTo n adj c t)) c n ∧ pick n adj c (removeTo n adj c t) < n ∧ pick n adj c (removeTo n adj c t) ∉ removeTo n adj c t := by
  obtain ⟨h1, h2⟩ := removeTo_nodup n adj c (t + 1) (by omega)
  simp only [removeTo] at h1 h2
  rw [List.nodup_append] at h1
  have hp := h2 (pick n adj c (removeTo n adj c t)) (by simp)
  have hq : pick n adj c (removeTo n adj c t) ∉ removeTo n adj c t := fun h => h1.2.2 _ h _ (by simp) rfl
  refine ⟨?_, hp, hq⟩
  exact pickTo_found _ _ _ _ (pick n adj c (removeTo n adj c t)) hp (by simpa [goneIn] using hq)
/-- The degrees behind the removal of p. -/
theorem degIn_snoc (n : Nat) (adj : Nat → Nat → Bool) (order : List Nat) (p i : Nat) (hp : p < n) (hq : p ∉ order) : degIn n adj (order ++ [p]) i = degIn n adj order i - if adj i p then 1 else 0 := by
  unfold degIn deg
  have key : ∀ l : List Nat, l.Nodup → ((l.filter fun k => adj i k && !goneIn (order ++ [p]) k).length : Int) = (l.filter fun k => adj i k && !goneIn order k).length - if p ∈ l ∧ adj i p then 1 else 0 := by
    intro l hl
    induction l with
    | nil => simp
    | cons a l ih =>
      obtain ⟨ha, hl⟩ := List.nodup_cons.1 hl
      have ih := ih hl
      simp only [List.filter_cons]
      by_cases hap : a = p
      · subst hap
        have h1 : goneIn (order ++ [a]) a = true := by simp [goneIn]
        have h2 : goneIn order a = false := by simpa [goneIn] using hq
        rw [if_neg (by simp [ha])] at ih
        rw [h1, h2]
        by_cases hadj : adj i a = true
        · rw [if_neg (by simp), if_pos (by simp [hadj]), if_pos ⟨by simp, hadj⟩, List.length_cons, ih]
          omega
        · rw [if_neg (by simp), if_neg (by simp [hadj]), if_neg (fun h => hadj h.2), ih]
      · have h1 : goneIn (order ++ [p]) a = goneIn order a := by
          simp [goneIn, hap]
        have h2 : (p ∈ a :: l ∧ adj i p = true) ↔ (p ∈ l ∧ adj i p = true) := by
          simp [Ne.symm hap]
        rw [h1]
        simp only [h2]
        split
        · rw [List.length_cons, List.length_cons]
          omega
        · exact ih
  rw [key _ List.nodup_range]
  simp [hp]
theorem degIn_nil (n : Nat) (adj : Nat → Nat → Bool) (i : Nat) : degIn n adj [] i = ((List.range n).filter (adj i)).length := by
  simp [degIn, deg, goneIn]
/-! ### Selection -/
/-- A neighbor of i has the color c. -/
def taken (n : Nat) (adj : Nat → Nat → Bool) (out : List Int) (i : Nat) (c : Nat) : Bool := (List.range n).any fun k => adj i k && out.getD k (-1) == (c : Int)
def firstFree (n : Nat) (adj : Nat → Nat → Bool) (cs : Nat) (out : List Int) (i : Nat) : Option Nat := (List.range cs).find? fun c => !taken n adj out i c
def colorStep (n : Nat) (adj : Nat → Nat → Bool) (cs : Nat) (out : List Int) (i : Nat) : List Int :=
  match firstFree n adj cs out i with
  | some c => out.set i c
  | none => out
/-- The colors of the nodes in the order in which they are taken from the stack. -/
def selectL (n : Nat) (adj : Nat → Nat → Bool) (cs : Nat) (l : List Nat) : List Int := l.foldl (colorStep n adj cs) (List.replicate n (-1))
/-- The colors of all nodes. -/
def colorL (n : Nat) (adj : Nat → Nat → Bool) (colors : Int) : List Int := selectL n adj (max colors 0).toNat (removeTo n adj (max colors 0) n).reverse

theorem length_colorStep (n : Nat) (adj : Nat → Nat → Bool) (cs : Nat) (out : List Int) (i : Nat) : (colorStep n adj cs out i).length = out.length := by
  unfold colorStep
  split <;> simp
theorem length_foldl_color (n : Nat) (adj : Nat → Nat → Bool) (cs : Nat) (l : List Nat) : ∀ out : List Int, (l.foldl (colorStep n adj cs) out).length = out.length := by
  induction l with
  | nil => intro _; rfl
  | cons i l ih => intro out; rw [List.foldl_cons, ih, length_colorStep]
theorem length_selectL (n : Nat) (adj : Nat → Nat → Bool) (cs : Nat) (l : List Nat) : (selectL n adj cs l).length = n := by
  unfold selectL
  rw [length_foldl_color]
  simp
theorem length_colorL (n : Nat) (adj : Nat → Nat → Bool) (colors : Int) : (colorL n adj colors).length = n := length_selectL _ _ _ _
theorem selectL_take (n : Nat) (adj : Nat → Nat → Bool) (cs : Nat) (l : List Nat) (t : Nat) (h : t < l.length) : selectL n adj cs (l.take (t + 1)) = colorStep n adj cs (selectL n adj cs (l.take t)) (l.getD t 0) := by
  unfold selectL
  rw [List.take_succ_eq_append_getElem h, List.foldl_append]
  simp [List.getD_eq_getElem?_getD, h]
theorem firstFree_none {n : Nat} {adj : Nat → Nat → Bool} {cs : Nat} {out : List Int} {i : Nat} (h : ∀ c, c < cs → taken n adj out i c = true) : firstFree n adj cs out i = none := by
  unfold firstFree
  rw [List.find?_eq_none]
  intro c hc
  simp [h c (List.mem_range.1 hc)]
theorem firstFree_some {n : Nat} {adj : Nat → Nat → Bool} {cs : Nat} {out : List Int} {i c : Nat} (hc : c < cs) (h : taken n adj out i c = false) (hl : ∀ c', c' < c → taken n adj out i c' = true) : firstFree n adj cs out i = some c := by
  unfold firstFree
  rw [List.find?_range_eq_some]
  exact ⟨by simp [h], by simpa using hc, fun j hj => by simp [hl j hj]⟩
end Go.Proofs.Ytljacnpadelilaa.Col
