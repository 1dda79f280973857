/- What the laws of graphs share: small graphs, Adjacent, what a coloring is good for. Condition: none. -/
import Derived.Test.YtljacnpadelilaaAwake20
import Derived.Test.YtljacnpadelilaaProper
namespace Go.Proofs.Ytljacnpadelilaa
open Go.RowKit Go.Proofs.YtljacnpadelilaaW.PrintWords Go.Proofs.YtljacnpadelilaaW.PrintLast Go.Proofs.YtljacnpadelilaaW.PrintMore
open Col
theorem wide_small {l0 : List (List Int)} (h : wideB l0 = false) : l0.length ≤ 24 ∧ ∀ r ∈ l0, r.length ≤ 40 := by
  unfold wideB at h
  rw [Bool.or_eq_false_iff, decide_eq_false_iff_not, List.any_eq_false] at h
  exact ⟨by omega, fun r hr => by have := h.2 r hr; simp at this; omega⟩
theorem small_leM {l0 : List (List Int)} (h : l0.length ≤ 24 ∧ ∀ r ∈ l0, r.length ≤ 40) : LeM l0 40 := by
  refine ⟨by omega, by omega, fun i => ?_⟩
  rw [List.getD_eq_getElem?_getD]
  cases hq : l0[i]? with
  | none => simp
  | some r => exact h.2 r (List.mem_of_getElem? hq)
theorem adjacent_calls (A0 : Option Addr) (c0 : Nat) (l0 : List (List Int)) (a b : Nat) (w : World) (hr0 : Kd.C (Kd.slice 3 (Kd.int .i64)) w A0 l0.length l0) (hc0 : l0.length ≤ c0) {M : Nat} (h : LeM l0 M) (ha : a < l0.length) (hb : b < l0.length) :
    Calls Try.prog 29 #[.slice A0 l0.length c0, .int .i64 a, .int .i64 b] w fun e w' => e = .returned (.bool (adjb l0 a b)) ∧ Drawn0 w w' :=
  PRegallocColors.ontimeref20_Adjacent.calls (M + 1) A0 c0 l0 a b _ w hr0 hc0 (adjacent_f h a b (M + 1) ha hb (Nat.lt_succ_self _))
theorem adjb_irr (l : List (List Int)) (a : Nat) : adjb l a a = false := by simp [adjb]
theorem colorB_good (l : List (List Int)) (colors : Int) : Col.Good l.length (adjb l) (max colors 0).toNat (fun a => a < l.length) (colorL l.length (adjb l) colors) := colorL_good _ _ _ (adjb_sym l) (adjb_irr l)
def degB (l : List (List Int)) (a j : Nat) : Nat := ((List.range j).filter (adjb l a)).length
theorem degB_succ (l : List (List Int)) (a j : Nat) : degB l a (j + 1) = degB l a j + if adjb l a j then 1 else 0 := by
  unfold degB
  rw [List.range_succ, List.filter_append, List.length_append, List.filter_cons]
  split <;> rfl
theorem degB_le (l : List (List Int)) (a j : Nat) : degB l a j ≤ j := by
  have := List.length_filter_le (adjb l a) (List.range j)
  rw [List.length_range] at this
  exact this
end Go.Proofs.Ytljacnpadelilaa
