/- What came in, read: from the form's reading of an argument to the kinds' own words. Condition: none. -/
import Derived.Test.YtljacnpadelilaaWWords
import Derived.Deep.Slices
import Derived.ProofKit
namespace Go.Proofs.Ytljacnpadelilaa
open Go.RowKit Go.Proofs.YtljacnpadelilaaW.PrintWords
open Go.Deep
section
variable {H : Type} {enc : TypeId × Value → H} {P : Program} {w : World}
/-- Whatever the form reads at type t is read as kind d, and is good. -/
def Opens {α : Type} (enc : TypeId × Value → H) (P : Program) (w : World) (t : TypeId) (d : Kd α) (G : α → Prop) : Prop :=
  ∀ (fuel : Nat) (cs : List Value) (x : DataW H × List MemPlace), DataW.trod enc P w 0 (fun _ => true) true fuel t cs = some x → ∃ a, d.K w a cs ∧ G a
theorem Opens.int {t : TypeId} {k : IntKind} (ht : P.underlying t = some (.int k)) : Opens enc P w t (Kd.int k) (fun a => (Lit.int k a).wf = true) := by
  intro fuel cs x h
  obtain ⟨n, h1, _, h3⟩ := DataW.trod_int ht h
  exact ⟨n, h1, h3⟩
theorem Opens.bool {t : TypeId} (ht : P.underlying t = some .bool) : Opens enc P w t Kd.bool (fun _ => True) := by
  intro fuel cs x h
  obtain ⟨n, h1, _⟩ := DataW.trod_bool ht h
  exact ⟨n, h1, trivial⟩
theorem Opens.string {t : TypeId} (ht : P.underlying t = some .string) : Opens enc P w t Kd.string (fun s => s.size ≤ maxLen) := by
  intro fuel cs x h
  obtain ⟨n, h1, _, h3⟩ := DataW.trod_string ht h
  exact ⟨n, h1, h3⟩
theorem Opens.slice {α : Type} {t e : TypeId} {d : Kd α} {G : α → Prop} (ht : P.underlying t = some (.slice e)) (hsz : P.cellsOf e = d.sz) (he : Opens enc P w e d G) : Opens enc P w t (Kd.slice e d) (fun xs => ∀ a ∈ xs, G a) := by
  intro fuel cs x h
  rcases open_slice ht h with ⟨rfl, _⟩ | ⟨a, len, cap, m, n, D, Pl, rfl, _, hl, hm, hmm, _, hx⟩
  · exact ⟨[], ⟨none, 0, rfl, Nat.le_refl _, rfl, Nat.zero_le _, fun h => absurd h (Nat.lt_irrefl _)⟩, fun _ h => by cases h⟩
  · have hle : len ≤ m := by
      rw [hmm, if_pos rfl]
      exact hl
    have each : ∀ i, i < len → ∃ y : α × List Value, w.cells? 0 (a.add (i * d.sz)) d.sz = some y.2 ∧ d.K w y.1 y.2 ∧ G y.1 := fun i hi => by
      obtain ⟨cs', h1, h2⟩ := hx i (by omega)
      obtain ⟨p, hp, hg⟩ := he n cs' _ h2
      rw [hsz] at h1
      exact ⟨(p, cs'), h1, hp, hg⟩
    cases Nat.eq_zero_or_pos len with
    | inl h0 =>
      subst h0
      exact ⟨[], ⟨some a, cap, rfl, Nat.zero_le _, rfl, Nat.zero_le _, fun h => absurd h (Nat.lt_irrefl _)⟩, fun _ h => by cases h⟩
    | inr hpos =>
      obtain ⟨y0, _⟩ := each 0 hpos
      have : Inhabited (α × List Value) := ⟨y0⟩
      obtain ⟨f, hf⟩ := choose_lt each
      refine ⟨(List.range len).map fun i => (f i).1, ⟨some a, cap, by simp, by simpa using hl, by simp, ?_, fun _ => ⟨a, rfl, fun j p hp => ?_⟩⟩, ?_⟩
      · simp only [List.length_map, List.length_range]
        unfold maxLen at hm
        omega
      · rw [List.getElem?_map] at hp
        obtain ⟨i, hi, rfl⟩ := Option.map_eq_some_iff.1 hp
        obtain ⟨hjl, he⟩ := List.getElem?_eq_some_iff.1 hi
        rw [List.getElem_range] at he
        subst he
        have hj : j < len := by simpa using hjl
        obtain ⟨h1, h2, h3⟩ := hf j hj
        obtain ⟨_, hlen, hcell⟩ := World.cells?_some h1
        refine ⟨(f j).2, hlen, h2, fun q u hu => ?_⟩
        have hq : q < d.sz := by
          have := (List.getElem?_eq_some_iff.1 hu).1
          omega
        have e : (a.add (j * d.sz)).add q = a.add (j * d.sz + q) := by
          unfold Addr.add
          repeat' split
          all_goals first
            | omega
            | rfl
            | (simp_all; done)
            | (simp_all; omega)
        rw [← e, hcell q hq, hu]
      · intro p hp
        obtain ⟨i, hi, rfl⟩ := List.mem_map.1 hp
        exact (hf i (List.mem_range.1 hi)).2.2
/-- An argument that is a slice. -/
theorem Opens.arg {α : Type} {t e : TypeId} {d : Kd α} {G : List α → Prop} (h : Opens enc P w t (Kd.slice e d) G) {v : Value} {x : DataW H} {p : List MemPlace} {A : Option Addr} {len cap : Nat} (hv : v = .slice A len cap)
    (ht : DataW.Trod enc P w 0 (fun _ => true) true t v x p) : ∃ l : List α, len = l.length ∧ l.length ≤ cap ∧ d.C w A l.length l ∧ G l := by
  subst hv
  obtain ⟨fuel, hf⟩ := ht
  obtain ⟨l, ⟨A', c', h1, h2, h3⟩, hg⟩ := h fuel _ _ hf
  have h1' : [Value.slice A len cap] = [Value.slice A' l.length c'] := h1
  simp only [List.cons.injEq, Value.slice.injEq, and_true] at h1'
  obtain ⟨rfl, rfl, rfl⟩ := h1'
  exact ⟨l, rfl, h2, h3, hg⟩
theorem trod_places {t : TypeId} {v : Value} {x : DataW H} {p : List MemPlace} (h : DataW.Trod enc P w 0 (fun _ => true) true t v x p) : ∀ y ∈ p, y.block < w.heap.size := by
  obtain ⟨m, hm⟩ := h
  exact DataW.trod_lt m _ _ _ hm
end
end Go.Proofs.Ytljacnpadelilaa
