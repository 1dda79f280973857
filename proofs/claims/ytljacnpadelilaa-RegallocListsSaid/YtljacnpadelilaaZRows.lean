/- A block of slices, each of which owns its array: rows that are appended to. Condition: none. -/
import Derived.Test.YtljacnpadelilaaGraph
namespace Go.Proofs.Ytljacnpadelilaa
open Go.RowKit Go.Proofs.YtljacnpadelilaaW.PrintWords Go.Proofs.YtljacnpadelilaaW.PrintLast Go.Proofs.YtljacnpadelilaaW.PrintMore
open Go.ChangeMaps (setBlock)
theorem info26 : (Try.prog.info? 26).map (fun i => (i.zero, i.size, i.bytes)) = some (some (.slice none 0 0), 1, 24) := by kernel_rfl
/-- Block O holds n slices of ints; each has an array of its own, behind O. -/
structure RowsB (w : World) (O n : Nat) (vs : Nat → Value) (xs : Nat → List Int) : Prop where
  blk : Blk w O ((List.range n).map vs) 26
  own : ∀ j, j < n → Kd.R (Kd.int .i64) 3 w (O + 1) (fun _ => True) (vs j) (xs j)
  apart : ∀ i j, i < n → j < n → i ≠ j → ∀ b, (vs i).ownBlock = some b → (vs j).ownBlock ≠ some b
theorem R_sharp {e : Nat} {w : World} {base : Nat} {ok ok' : Nat → Prop} {v : Value} {xs : List Int} (h : Kd.R (Kd.int .i64) e w base ok v xs) (hok : ∀ k, v.ownBlock = some k → ok' k) : Kd.R (Kd.int .i64) e w base ok' v xs :=
  Kd.R_of_own (enc := Value.int .i64) (h1 := fun _ => rfl) (Kd.own_of_R (enc := Value.int .i64) (h1 := fun _ => rfl) h) hok
theorem R_at {e : Nat} {w : World} {base : Nat} {ok : Nat → Prop} {v : Value} {xs : List Int} (h : Kd.R (Kd.int .i64) e w base ok v xs) {k : Nat} (hk : v.ownBlock = some k) : base ≤ k ∧ k < w.heap.size := by
  have := (Kd.R_bound h).1 k hk
  exact ⟨this.2.1, this.2.2.1⟩
theorem RowsB.start (w : World) (n : Nat) : RowsB (w.alloc (.cells (madeCells #[.slice none 0 0] n) 26)) w.heap.size n (fun _ => .slice none 0 0) (fun _ => []) := by
  refine ⟨?_, fun j _ => Kd.R_nil _ _ _ _ _, fun i j _ _ _ b h => by simp [Value.ownBlock] at h⟩
  have := Blk.new (w := w) ((List.range n).map fun _ => Value.slice none 0 0) 26
  have e : (madeCells #[Value.slice none 0 0] n) = ((List.range n).map fun _ => Value.slice none 0 0).toArray := by
    rw [← made_list]
  rw [e]
  exact this
theorem RowsB.cell {w : World} {O n : Nat} {vs : Nat → Value} {xs : Nat → List Int} (h : RowsB w O n vs xs) {j : Nat} (hj : j < n) : w.cell? ⟨O, j, none⟩ = some (vs j) := by
  rw [h.blk.cell, List.getElem?_map, List.getElem?_range hj]
  rfl
/-- Row j has been appended to, and the slice has been stored. -/
theorem RowsB.step {w W w1 : World} {O n : Nat} {vs : Nat → Value} {xs : Nat → List Int} (h : RowsB w O n vs xs) {j : Nat} (hj : j < n) (hW : Below w.heap.size w W) {v1 : Value} {ys : List Int}
    (h1 : Kd.R (Kd.int .i64) 3 w1 (O + 1) (fun _ => True) v1 ys) (hg : W.grownBy w1 (vs j).ownBlock) (hat : v1.ownBlock = (vs j).ownBlock ∨ ∃ b, v1.ownBlock = some b ∧ W.heap.size ≤ b) :
    RowsB (w1.setCell ⟨O, j, none⟩ v1) O n (fun i => if i = j then v1 else vs i) (fun i => if i = j then ys else xs i) := by
  have hO := h.blk.lt
  have hOW : O < W.heap.size := Nat.lt_of_lt_of_le hO hW.size
  have hne : some O ≠ (vs j).ownBlock := fun e => by
    have := R_at (h.own j hj) e.symm
    omega
  refine ⟨?_, fun i hi => ?_, fun i i' hi hi' hii b hb hb' => ?_⟩
  · have := ((h.blk.below hW hO).move (hg.block O hOW hne)).set j v1
    rw [map_range_set] at this
    exact this
  · by_cases e : i = j
    · subst e
      simp only [if_true]
      exact R_low h1 (by simp) _
    · simp only [if_neg e]
      refine R_low (Kd.R_mono (Kd.R_grown (R_sharp (ok' := fun k => (vs i).ownBlock = some k) (Kd.R_below (h.own i hi) hW) (fun k hk => hk)) hg (fun k hk e' => ?_)) (fun _ _ => trivial)) (by simp) _
      exact h.apart i j hi hj e k hk e'.symm
  · by_cases e : i = j
    · subst e
      rw [if_pos rfl] at hb
      rw [if_neg (Ne.symm hii)] at hb'
      rcases hat with ha | ⟨b', ha, hb2⟩
      · exact h.apart i i' hi hi' hii b (ha ▸ hb) hb'
      · have := R_at (h.own i' hi') hb'
        rw [ha] at hb
        injection hb with hb
        have := hW.size
        omega
    · rw [if_neg e] at hb
      by_cases e' : i' = j
      · subst e'
        rw [if_pos rfl] at hb'
        rcases hat with ha | ⟨b', ha, hb2⟩
        · exact h.apart i i' hi hi' hii b hb (ha ▸ hb')
        · have := R_at (h.own i hi) hb
          rw [ha] at hb'
          injection hb' with hb'
          have := hW.size
          omega
      · rw [if_neg e'] at hb'
        exact h.apart i i' hi hi' hii b hb hb'
theorem RowsB.below {w w1 : World} {O n : Nat} {vs : Nat → Value} {xs : Nat → List Int} (h : RowsB w O n vs xs) (hb : Below w.heap.size w w1) : RowsB w1 O n vs xs :=
  ⟨h.blk.below hb h.blk.lt, fun j hj => Kd.R_below (h.own j hj) hb, h.apart⟩
theorem RowsB.reads {w : World} {O n : Nat} {vs : Nat → Value} {xs : Nat → List Int} (h : RowsB w O n vs xs) (hn : n ≤ 140737488355328) : Kd.C (Kd.slice 3 (Kd.int .i64)) w (some ⟨O, 0, none⟩) n ((List.range n).map xs) := by
  have hall : ∀ j, ∃ r : Option Addr × Nat, j < n → vs j = .slice r.1 (xs j).length r.2 := fun j => by
    by_cases hj : j < n
    · obtain ⟨A, c, e⟩ := Kd.R_slice (h.own j hj)
      exact ⟨(A, c), fun _ => e⟩
    · exact ⟨(none, 0), fun h => absurd h hj⟩
  obtain ⟨f, hf⟩ := Classical.axiomOfChoice hall
  have e1 : ((List.range n).map vs) = (((List.range n).map fun j => ((f j).1, (f j).2, xs j)).map fun r : Option Addr × Nat × List Int => Value.slice r.1 r.2.2.length r.2.1) := by
    rw [List.map_map]
    apply List.map_congr_left
    intro j hj
    exact hf j (List.mem_range.1 hj)
  have hb := h.blk
  rw [e1] at hb
  have := Blk.rows hb (by simpa using hn) (by
    intro r hr
    obtain ⟨j, hj, rfl⟩ := List.mem_map.1 hr
    have hj := List.mem_range.1 hj
    have ho := h.own j hj
    rw [hf j hj] at ho
    have := Kd.R_reads' ho
    exact ⟨this.2.1, this.2.2⟩)
  rw [List.map_map, List.length_map, List.length_range] at this
  exact this
end Go.Proofs.Ytljacnpadelilaa
