/- What a coloring is good for, in plain lists: it is proper, and a node without a color has neighbors of all colors. Condition: none. -/
import Derived.Test.YtljacnpadelilaaCol
namespace Go.Proofs.Ytljacnpadelilaa.Col

/-- What holds of the colors while nodes are colored; D: the nodes that were. -/
structure Good (n : Nat) (adj : Nat → Nat → Bool) (cs : Nat) (D : Nat → Prop) (out : List Int) : Prop where
  len : out.length = n
  lo : ∀ a, -1 ≤ out.getD a (-1)
  hi : ∀ a, out.getD a (-1) < cs
  fresh : ∀ a, ¬ D a → out.getD a (-1) = -1
  proper : ∀ a b, adj a b = true → 0 ≤ out.getD a (-1) → out.getD a (-1) ≠ out.getD b (-1)
  full : ∀ a, D a → out.getD a (-1) < 0 → ∀ c, c < cs → taken n adj out a c = true

theorem taken_iff {n : Nat} {adj : Nat → Nat → Bool} {out : List Int} {i c : Nat} : taken n adj out i c = true ↔ ∃ k, k < n ∧ adj i k = true ∧ out.getD k (-1) = (c : Int) := by
  unfold taken
  simp only [List.any_eq_true, List.mem_range, Bool.and_eq_true, beq_iff_eq]
theorem firstFree_cases (n : Nat) (adj : Nat → Nat → Bool) (cs : Nat) (out : List Int) (i : Nat) : (firstFree n adj cs out i = none ∧ ∀ c, c < cs → taken n adj out i c = true) ∨ ∃ c, firstFree n adj cs out i = some c ∧ c < cs ∧ taken n adj out i c = false := by
  unfold firstFree
  cases h : (List.range cs).find? fun c => !taken n adj out i c with
  | none =>
    refine .inl ⟨rfl, fun c hc => ?_⟩
    have := List.find?_eq_none.1 h c (List.mem_range.2 hc)
    simpa using this
  | some c =>
    refine .inr ⟨c, rfl, List.mem_range.1 (List.mem_of_find?_eq_some h), ?_⟩
    have := List.find?_some h
    simpa using this
theorem getD_set {out : List Int} {i : Nat} (hi : i < out.length) (v : Int) (k : Nat) : (out.set i v).getD k (-1) = if k = i then v else out.getD k (-1) := by
  simp only [List.getD_eq_getElem?_getD, List.getElem?_set]
  by_cases h : k = i
  · subst h; simp [hi]
  · rw [if_neg (Ne.symm h), if_neg h]
theorem Good.step {n : Nat} {adj : Nat → Nat → Bool} {cs : Nat} {D : Nat → Prop} {out : List Int} (h : Good n adj cs D out) {i : Nat} (hi : i < n) (hD : ¬ D i) (hs : ∀ a b, adj a b = adj b a) (hir : ∀ a, adj a a = false)
    : Good n adj cs (fun a => D a ∨ a = i) (colorStep n adj cs out i) := by
  have h0 := h.fresh i hD
  have hl := h.len
  unfold colorStep
  rcases firstFree_cases n adj cs out i with ⟨he, hf⟩ | ⟨c, he, hc, hf⟩
  · rw [he]
    refine ⟨h.len, h.lo, h.hi, fun a ha => h.fresh a (fun x => ha (.inl x)), h.proper, ?_⟩
    rintro a (ha | rfl) h1
    · exact h.full a ha h1
    · exact hf
  · rw [he]
    have hset := getD_set (out := out) (by omega : i < out.length) (c : Int)
    have hfree : ∀ b, b < n → adj i b = true → out.getD b (-1) ≠ (c : Int) := fun b hb hab hbc => by
      have := (taken_iff (n := n) (adj := adj) (out := out) (i := i) (c := c)).2 ⟨b, hb, hab, hbc⟩
      rw [hf] at this
      cases this
    have hout : ∀ b, ¬ b < n → out.getD b (-1) = -1 := fun b hb => by
      rw [List.getD_eq_getElem?_getD, List.getElem?_eq_none (by omega)]; rfl
    refine ⟨by simp [hl], fun a => ?_, fun a => ?_, fun a ha => ?_, fun a b hab ha => ?_, fun a ha hneg k hk => ?_⟩
    · rw [hset]; split
      · omega
      · exact h.lo a
    · rw [hset]; split
      · omega
      · exact h.hi a
    · rw [hset, if_neg (fun e => ha (.inr e))]
      exact h.fresh a fun x => ha (.inl x)
    · rw [hset] at ha ⊢
      rw [hset]
      by_cases hai : a = i
      · subst hai
        have hba : b ≠ a := fun e => by rw [e, hir] at hab; cases hab
        rw [if_pos rfl, if_neg hba]
        by_cases hb : b < n
        · exact fun e => hfree b hb hab e.symm
        · rw [hout b hb]; omega
      · rw [if_neg hai] at ha ⊢
        by_cases hbi : b = i
        · subst hbi
          rw [if_pos rfl]
          rw [hs] at hab
          by_cases hb : a < n
          · exact hfree a hb hab
          · rw [hout a hb]; omega
        · rw [if_neg hbi]
          exact h.proper a b hab ha
    · rw [hset] at hneg
      by_cases hai : a = i
      · rw [if_pos hai] at hneg; omega
      · rw [if_neg hai] at hneg
        have hDa : D a := ha.resolve_right hai
        obtain ⟨q, hq1, hq2, hq3⟩ := taken_iff.1 (h.full a hDa hneg k hk)
        refine taken_iff.2 ⟨q, hq1, hq2, ?_⟩
        rw [hset, if_neg (fun e => by subst e; rw [h0] at hq3; omega)]
        exact hq3
theorem Good.run {n : Nat} {adj : Nat → Nat → Bool} {cs : Nat} (hs : ∀ a b, adj a b = adj b a) (hir : ∀ a, adj a a = false) (l : List Nat) : ∀ (D : Nat → Prop) (out : List Int), Good n adj cs D out → l.Nodup → (∀ i ∈ l, i < n ∧ ¬ D i) → Good n adj cs (fun a => D a ∨ a ∈ l) (l.foldl (colorStep n adj cs) out) := by
  induction l with
  | nil =>
    intro D out h _ _
    have e : (fun a => D a ∨ a ∈ ([] : List Nat)) = D := by funext a; simp
    rw [e]
    exact h
  | cons i l ih =>
    intro D out h hn hd
    obtain ⟨hi, hn⟩ := List.nodup_cons.1 hn
    have := ih _ _ (h.step (hd i (by simp)).1 (hd i (by simp)).2 hs hir) hn (fun j hj => ⟨(hd j (by simp [hj])).1, fun hc => by
      rcases hc with hc | rfl
      · exact (hd j (by simp [hj])).2 hc
      · exact hi hj⟩)
    rw [List.foldl_cons]
    have e : (fun a => (D a ∨ a = i) ∨ a ∈ l) = (fun a => D a ∨ a ∈ i :: l) := by
      funext a
      simp [or_assoc]
    rw [← e]
    exact this
theorem all_in {n : Nat} {l : List Nat} (hn : l.Nodup) (hl : ∀ i ∈ l, i < n) (hlen : l.length = n) (a : Nat) (ha : a < n) : a ∈ l := by
  refine Classical.byContradiction fun hno => ?_
  have : (a :: l).length ≤ (List.range n).length := (List.nodup_cons.2 ⟨hno, hn⟩).length_le_of_subset (fun x hx => by
    rw [List.mem_range]
    rcases List.mem_cons.1 hx with rfl | hx
    · exact ha
    · exact hl x hx)
  simp at this
  omega
/-- All that the laws ask of a coloring. -/
theorem colorL_good (n : Nat) (adj : Nat → Nat → Bool) (colors : Int) (hs : ∀ a b, adj a b = adj b a) (hir : ∀ a, adj a a = false) : Good n adj (max colors 0).toNat (fun a => a < n) (colorL n adj colors) := by
  obtain ⟨h1, h2⟩ := removeTo_nodup n adj (max colors 0) n (Nat.le_refl n)
  have hg : Good n adj (max colors 0).toNat (fun _ => False) (List.replicate n (-1)) := by
    have e : ∀ a, (List.replicate n (-1 : Int)).getD a (-1) = -1 := fun a => by
      rw [List.getD_eq_getElem?_getD, List.getElem?_replicate]
      split <;> rfl
    refine ⟨by simp, fun a => by rw [e]; omega, fun a => by rw [e]; omega, fun a _ => e a, fun a b _ h => by rw [e] at h; omega, fun a h => h.elim⟩
  have := Good.run hs hir (removeTo n adj (max colors 0) n).reverse _ _ hg (List.pairwise_reverse.2 (h1.imp fun h => Ne.symm h)) (fun i hi => ⟨h2 i (List.mem_reverse.1 hi), fun h => h⟩)
  have e : (fun a => False ∨ a ∈ (removeTo n adj (max colors 0) n).reverse) = (fun a => a < n) := ?_
  · rw [← e]
    exact this
  funext a
  refine propext ⟨fun h => ?_, fun h => .inr (List.mem_reverse.2 (all_in h1 h2 (length_removeTo n adj _ n) a h))⟩
  rcases h with h | h
  · exact h.elim
  · exact h2 a (List.mem_reverse.1 h)
/-- If a node has fewer neighbors than there are colors, it has one. -/
theorem Good.few {n : Nat} {adj : Nat → Nat → Bool} {cs : Nat} {out : List Int} (h : Good n adj cs (fun a => a < n) out) {a : Nat} (ha : a < n) (hf : ((List.range n).filter (adj a)).length < cs) : 0 ≤ out.getD a (-1) := by
  refine Classical.byContradiction fun hneg => ?_
  have hfull := h.full a ha (by omega)
  have hsub : ∀ c ∈ List.range cs, (c : Nat) ∈ ((List.range n).filter (adj a)).map fun k => (out.getD k (-1)).toNat := fun c hc => by
    obtain ⟨k, k1, k2, k3⟩ := taken_iff.1 (hfull c (List.mem_range.1 hc))
    refine List.mem_map.2 ⟨k, List.mem_filter.2 ⟨List.mem_range.2 k1, k2⟩, ?_⟩
    rw [k3]
    rfl
  have := (List.nodup_range (n := cs)).length_le_of_subset hsub
  simp only [List.length_map, List.length_range] at this
  omega
end Go.Proofs.Ytljacnpadelilaa.Col
