/- 'm[k] = true' for a map that is a set, as one operation. Condition: none. -/
import Derived.Test.YtljacnpadelilaaMem
namespace Go.Proofs.Ytljacnpadelilaa
open Go.RowKit Go.Proofs.YtljacnpadelilaaW.PrintWords
open Go.ChangeMaps (setBlock)
open Go.MapKept
section
variable {P : Program} {mt kt et : TypeId} {es : Array MapEntry} {clock : Nat} {ks : List Int}
theorem IsSet.update (h : IsSet es clock ks) (hm : P.underlying mt = some (.map kt et)) (hk : P.underlying kt = some (.int .i64)) (b : Nat) (k : Int) :
    ∃ (es1 : Array MapEntry) (c1 : Nat) (ks' : List Int),
      (∀ W : World, W.heap[b]? = some (.map es clock) → (Instr.mapUpdate mt (.map (some b)) (.int .i64 k) (.bool true)).run P W = .ok () (setBlock W b (.map es1 c1))) ∧
      IsSet es1 c1 ks' ∧ ∀ q, q ∈ ks' ↔ q ∈ ks ∨ q = k := by
  have hkey : IsKey (.int .i64) (.int .i64 k) := rfl
  rcases findNow_spec hkey es.toList 0 h.isKey with ⟨h1, h2⟩ | ⟨j, e, h1, h2, h3⟩
  · refine ⟨es.push ⟨.int .i64 k, .bool true, clock⟩, clock + 1, ks ++ [k], ?_, ?_, ?_⟩
    · intro W hb
      simp [Instr.mapUpdate, run_underlying hm, MapKept.run_getObj_map hb, MapKept.run_checkKey hk hkey, MapKept.run_findKey hk h1, MapKept.run_setObj_map _ hb, Result.andThen, setBlock]
    · have hnot : k ∉ ks := fun hk' => by
        obtain ⟨x, hx, e⟩ := h.has.1 hk'
        exact h2 x hx e
      refine ⟨by simp [h.keys], ?_, ?_, ?_, ?_⟩
      · intro e he
        simp only [Array.toList_push, List.mem_append, List.mem_singleton] at he
        rcases he with he | rfl
        · exact h.vals e he
        · rfl
      · simp only [Array.toList_push, List.map_append, List.map_cons, List.map_nil]
        rw [List.nodup_append]
        refine ⟨h.once, by simp, ?_⟩
        intro a ha c hc
        simp only [List.mem_singleton] at hc
        subst hc
        obtain ⟨x, hx, rfl⟩ := List.mem_map.1 ha
        have := h.past x hx
        omega
      · intro e he
        simp only [Array.toList_push, List.mem_append, List.mem_singleton] at he
        rcases he with he | rfl
        · have := h.past e he
          omega
        · exact Nat.lt_succ_self _
      · rw [List.nodup_append]
        refine ⟨h.nodup, by simp, ?_⟩
        intro a ha c hc
        simp only [List.mem_singleton] at hc
        subst hc
        rintro rfl
        exact hnot ha
    · intro q
      simp
  · have hj : es[j]? = some e := by simpa using h2
    have hjl : e ∈ es.toList := by rw [Array.mem_toList_iff, Array.mem_iff_getElem?]; exact ⟨j, hj⟩
    have hsame : es.modify j (fun e => { e with key := .int .i64 k, val := .bool true }) = es := by
      apply Array.toList_inj.1
      rw [modify_list _ _ _ hj]
      refine list_set_same _ _ _ ?_
      rw [h2]
      have hv := h.vals e hjl
      cases e
      simp only at h3 hv
      subst h3
      subst hv
      rfl
    refine ⟨es, clock, ks, ?_, h, ?_⟩
    · intro W hb
      simp [Instr.mapUpdate, run_underlying hm, MapKept.run_getObj_map hb, run_checkKey hk hkey, run_findKey hk h1, hj, h3, run_keyThatStays hkey, MapKept.run_setObj_map _ hb, Result.andThen, setBlock, hsame]
    · intro q
      constructor
      · exact .inl
      · rintro (h' | rfl)
        · exact h'
        · exact h.has.2 ⟨e, hjl, h3⟩
end
theorem SetB.put {P : Program} {w : World} {b : Nat} {S : Int → Prop} (h : SetB w b S) {mt kt et : TypeId} (hm : P.underlying mt = some (.map kt et)) (hk : P.underlying kt = some (.int .i64)) (k : Int) :
    ∃ o, (Instr.mapUpdate mt (.map (some b)) (.int .i64 k) (.bool true)).run P w = .ok () (setBlock w b o) ∧ SetB (setBlock w b o) b (fun q => S q ∨ q = k) := by
  obtain ⟨es, clock, ks, h1, h2, h3⟩ := h
  obtain ⟨es1, c1, ks', a1, a2, a3⟩ := h2.update hm hk b k
  exact ⟨_, a1 w h1, es1, c1, ks', heap_setBlock_same h1, a2, fun q => by rw [a3, h3]⟩
theorem SetB.drew {w : World} {b : Nat} {S : Int → Prop} (h : SetB w b S) : SetB w.drew b S := h.move rfl
theorem SetB.putAll {P : Program} {w : World} {b : Nat} {S : Int → Prop} (h : SetB w b S) {mt kt et : TypeId} (hm : P.underlying mt = some (.map kt et)) (hk : P.underlying kt = some (.int .i64)) (k : Int) :
    ∃ o, ∀ W : World, W.heap[b]? = w.heap[b]? → (Instr.mapUpdate mt (.map (some b)) (.int .i64 k) (.bool true)).run P W = .ok () (setBlock W b o) ∧ SetB (setBlock W b o) b (fun q => S q ∨ q = k) := by
  obtain ⟨es, clock, ks, h1, h2, h3⟩ := h
  obtain ⟨es1, c1, ks', a1, a2, a3⟩ := h2.update hm hk b k
  exact ⟨_, fun W hW => ⟨a1 W (hW.trans h1), es1, c1, ks', heap_setBlock_same (hW.trans h1), a2, fun q => by rw [a3, h3]⟩⟩
end Go.Proofs.Ytljacnpadelilaa
