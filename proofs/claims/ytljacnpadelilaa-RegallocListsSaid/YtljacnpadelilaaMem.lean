/- Blocks of memory that are known whole, and sets kept in maps: the words of this seat's walks. Condition: none. -/
import Derived.Test.YtljacnpadelilaaWWords
import Derived.Test.YtljacnpadelilaaWMore
import Derived.Maps.RangeRun
namespace Go.Proofs.Ytljacnpadelilaa
open Go.RowKit Go.Proofs.YtljacnpadelilaaW.PrintWords
open Go.ChangeMaps (setBlock)
open Go.MapKept

/-- Block g is just these cells. -/
def Blk (w : World) (g : Nat) (cs : List Value) (T : TypeId) : Prop := w.heap[g]? = some (.cells cs.toArray T (0, 0))

theorem Blk.lt {w : World} {g : Nat} {cs : List Value} {T : TypeId} (h : Blk w g cs T) : g < w.heap.size := (Array.getElem?_eq_some_iff.1 h).1
theorem Blk.cell {w : World} {g : Nat} {cs : List Value} {T : TypeId} (h : Blk w g cs T) (i : Nat) : w.cell? ⟨g, i, none⟩ = cs[i]? := by
  have := blk_cell (w := w) (g := g) h i
  simpa using this
theorem Blk.frozen {w : World} {g : Nat} {cs : List Value} {T : TypeId} (h : Blk w g cs T) (i : Nat) : w.frozen? ⟨g, i, none⟩ = false := blk_frozen h i
theorem Blk.set {w : World} {g : Nat} {cs : List Value} {T : TypeId} (h : Blk w g cs T) (i : Nat) (v : Value) : Blk (w.setCell ⟨g, i, none⟩ v) g (cs.set i v) T := by
  have := blk_set h i v
  unfold Blk
  rw [this]
  simp
theorem Blk.far {w : World} {g : Nat} {cs : List Value} {T : TypeId} (h : Blk w g cs T) {p : Addr} (hp : g ≠ p.block) (v : Value) : Blk (w.setCell p v) g cs T := blk_far h hp v
theorem Blk.alloc {w : World} {g : Nat} {cs : List Value} {T : TypeId} (h : Blk w g cs T) (o : Obj) : Blk (w.alloc o) g cs T := (Below.heap_alloc w o g h.lt).trans h
theorem Blk.new {w : World} (cs : List Value) (T : TypeId) : Blk (w.alloc (.cells cs.toArray T (0, 0))) w.heap.size cs T := heap_alloc_new w _
theorem Blk.below {w w1 : World} {B g : Nat} {cs : List Value} {T : TypeId} (h : Blk w g cs T) (hb : Below B w w1) (hg : g < B) : Blk w1 g cs T := (hb.block g hg).trans h
theorem Blk.move {w w1 : World} {g : Nat} {cs : List Value} {T : TypeId} (h : Blk w g cs T) (hm : w1.heap[g]? = w.heap[g]?) : Blk w1 g cs T := hm.trans h

theorem heap_setBlock_same {w : World} {b : Nat} {o o' : Obj} (h : w.heap[b]? = some o) : (setBlock w b o').heap[b]? = some o' := (heap_set h).1
theorem heap_setBlock_far {w : World} {b i : Nat} {o : Obj} (h : i ≠ b) : (setBlock w b o).heap[i]? = w.heap[i]? := by
  simp only [setBlock, Array.getElem?_setIfInBounds]
  rw [if_neg (fun e => h e.symm)]
theorem size_setBlock {w : World} {b : Nat} {o : Obj} : (setBlock w b o).heap.size = w.heap.size := by simp [setBlock]
theorem cell_setBlock_far {w : World} {b g i : Nat} {o : Obj} (h : g ≠ b) : (setBlock w b o).cell? ⟨g, i, none⟩ = w.cell? ⟨g, i, none⟩ := World.cell?_of_block (w := w) (heap_setBlock_far h)
theorem frozen_setBlock_far {w : World} {b g i : Nat} {o : Obj} (h : g ≠ b) : (setBlock w b o).frozen? ⟨g, i, none⟩ = w.frozen? ⟨g, i, none⟩ := World.frozen?_of_block (w := w) (heap_setBlock_far h)
theorem below_setBlock {B : Nat} {w w1 : World} (h : Below B w w1) {b : Nat} (hb : B ≤ b) (o : Obj) : Below B w (setBlock w1 b o) :=
  h.trans ⟨rfl, rfl, rfl, by rw [size_setBlock]; exact Nat.le_refl _, fun k hk => heap_setBlock_far (by omega)⟩

theorem nodup_map {α β : Type} {f : α → β} (hf : ∀ a b, f a = f b → a = b) {l : List α} (h : l.Nodup) : (l.map f).Nodup := List.pairwise_map.2 (h.imp fun hne e => hne (hf _ _ e))
/-- A block that is known whole is a row of one's own. -/
theorem Blk.own {α : Type} {enc : α → Value} {h1 : ∀ x, (enc x).oneCell' = true} {w : World} {g : Nat} {xs : List α} {T : TypeId} (h : Blk w g (xs.map enc) T) {base : Nat} (hb : base ≤ g) (hl : xs.length ≤ 140737488355328) {ok : Nat → Prop} (hok : ok g) :
    (Kd.scalar enc h1).R T w base ok (.slice (some ⟨g, 0, none⟩) xs.length xs.length) xs :=
  Kd.R_of_own ⟨by simp [encs], .inr ⟨g, xs.length, _, rfl, hb, h, Nat.le_refl _, by simp only [maxLen]; omega, by simp, by rw [Nat.mul_one, List.take_of_length_le (by simp)]; rfl⟩⟩ (fun k hk => by
    have : g = k := by simpa [Value.ownBlock] using hk
    exact this ▸ hok)
/-! ### Maps from int to bool that hold 'true' alone: sets -/
/-- These entries are a set: just these keys, in the order of their coming. -/
structure IsSet (es : Array MapEntry) (clock : Nat) (ks : List Int) : Prop where
  keys : es.toList.map (·.key) = ks.map (Value.int .i64)
  vals : ∀ e ∈ es.toList, e.val = .bool true
  once : (es.toList.map (·.born)).Nodup
  past : ∀ e ∈ es.toList, e.born < clock
  nodup : ks.Nodup
/-- Block b is a set of numbers. -/
def SetB (w : World) (b : Nat) (S : Int → Prop) : Prop := ∃ es clock ks, w.heap[b]? = some (.map es clock) ∧ IsSet es clock ks ∧ ∀ k, k ∈ ks ↔ S k

theorem SetB.lt {w : World} {b : Nat} {S : Int → Prop} (h : SetB w b S) : b < w.heap.size := by
  obtain ⟨es, clock, ks, h, _⟩ := h
  exact (Array.getElem?_eq_some_iff.1 h).1
theorem SetB.move {w w1 : World} {b : Nat} {S : Int → Prop} (h : SetB w b S) (hm : w1.heap[b]? = w.heap[b]?) : SetB w1 b S := by
  obtain ⟨es, clock, ks, h1, h2⟩ := h
  exact ⟨es, clock, ks, hm.trans h1, h2⟩
theorem isSet_none : IsSet #[] 0 [] := ⟨rfl, by simp, by simp, by simp, List.nodup_nil⟩
theorem SetB.empty {w : World} {b : Nat} (h : w.heap[b]? = some (.map #[] 0)) : SetB w b (fun _ => False) := ⟨#[], 0, [], h, isSet_none, by simp⟩
theorem SetB.congr {w : World} {b : Nat} {S S' : Int → Prop} (h : SetB w b S) (hs : ∀ k, S k ↔ S' k) : SetB w b S' := by
  obtain ⟨es, clock, ks, h1, h2, h3⟩ := h
  exact ⟨es, clock, ks, h1, h2, fun k => (h3 k).trans (hs k)⟩

section
variable {P : Program} {mt kt et : TypeId} {es : Array MapEntry} {clock : Nat} {ks : List Int}
theorem IsSet.isKey (h : IsSet es clock ks) : ∀ x ∈ es.toList, IsKey (.int .i64) x.key := by
  intro x hx
  have : x.key ∈ es.toList.map (·.key) := List.mem_map.2 ⟨x, hx, rfl⟩
  rw [h.keys] at this
  obtain ⟨k, _, e⟩ := List.mem_map.1 this
  rw [← e]
  rfl
theorem IsSet.has (h : IsSet es clock ks) {k : Int} : k ∈ ks ↔ ∃ x ∈ es.toList, x.key = .int .i64 k := by
  have : k ∈ ks ↔ Value.int .i64 k ∈ ks.map (Value.int .i64) := by
    rw [List.mem_map]
    exact ⟨fun hk => ⟨k, hk, rfl⟩, fun ⟨k', hk', e⟩ => by injection e with _ e; exact e ▸ hk'⟩
  rw [this, ← h.keys, List.mem_map]
theorem IsSet.length (h : IsSet es clock ks) : es.size = ks.length := by
  have := congrArg List.length h.keys
  simpa using this

theorem modify_list (es : Array MapEntry) (j : Nat) (f : MapEntry → MapEntry) {e : MapEntry} (h : es[j]? = some e) : (es.modify j f).toList = es.toList.set j (f e) := by
  apply List.ext_getElem?
  intro i
  rw [Array.getElem?_toList, Array.getElem?_modify, List.getElem?_set]
  obtain ⟨hj, he⟩ := Array.getElem?_eq_some_iff.1 h
  by_cases hi : j = i
  · subst hi
    simp [hj, he]
  · simp [hi]
theorem list_set_same {α : Type} (l : List α) (j : Nat) (x : α) (h : l[j]? = some x) : l.set j x = l := by
  apply List.ext_getElem?
  intro i
  rw [List.getElem?_set]
  by_cases hi : j = i
  · subst hi
    rw [if_pos rfl, h]
    simp [(List.getElem?_eq_some_iff.1 h).1]
  · rw [if_neg hi]

/-- 'm[k] = true' in a statement that gives Go the choice of an order: the entry first, then its value. -/
theorem IsSet.entry (h : IsSet es clock ks) (hm : P.underlying mt = some (.map kt et)) (hk : P.underlying kt = some (.int .i64)) (hz : ∀ W : World, (zeroValue et).run P W = .ok (.bool false) W) (b : Nat) (k : Int) :
    ∃ (es1 es2 : Array MapEntry) (c1 : Nat) (v : Value) (st : Int) (ks' : List Int),
      (∀ W : World, W.heap[b]? = some (.map es clock) → (Instr.mapEntry mt (.map (some b)) (.int .i64 k)).run P W = .ok (.tuple #[v, .int .i64 st]) (setBlock W b (.map es1 c1))) ∧
      (∀ W : World, W.heap[b]? = some (.map es1 c1) → (Instr.entryStore mt (.map (some b)) (.int .i64 st) (.bool true)).run P W = .ok () (setBlock W b (.map es2 c1))) ∧
      IsSet es2 c1 ks' ∧ ∀ q, q ∈ ks' ↔ q ∈ ks ∨ q = k := by
  have hkey : IsKey (.int .i64) (.int .i64 k) := rfl
  rcases findNow_spec hkey es.toList 0 h.isKey with ⟨h1, h2⟩ | ⟨j, e, h1, h2, h3⟩
  · refine ⟨es.push ⟨.int .i64 k, .bool false, clock⟩, es.push ⟨.int .i64 k, .bool true, clock⟩, clock + 1, .bool false, clock, ks ++ [k], ?_, ?_, ?_, ?_⟩
    · intro W hb
      simp only [Instr.mapEntry, Sem.run_bind, run_underlying hm, MapKept.run_getObj_map hb, MapKept.run_checkKey hk hkey, MapKept.run_findKey hk h1, Result.andThen, hz, MapKept.run_setObj_map _ hb]
      rfl
    · intro W hb
      have hf : (es.push ⟨.int .i64 k, .bool false, clock⟩ : Array MapEntry).findIdx? (fun e => (e.born : Int) == (clock : Int)) = some es.size := by
        rw [Array.findIdx?_push]
        have : es.findIdx? (fun e => (e.born : Int) == (clock : Int)) = none := by
          rw [Array.findIdx?_eq_none_iff]
          intro x hx
          have := h.past x (by simpa using hx)
          simp only [beq_eq_false_iff_ne]
          omega
        rw [this]
        simp
      have hb' := hb
      simp only [Instr.entryStore, Sem.run_bind, MapKept.run_getObj_map hb', asInt, asIntOf, Sem.run_pure, Result.andThen, hf, MapKept.run_setObj_map _ hb']
      have : (es.push (⟨.int .i64 k, .bool false, clock⟩ : MapEntry)).modify es.size (fun e => { e with val := .bool true }) = es.push ⟨.int .i64 k, .bool true, clock⟩ := by
        apply Array.toList_inj.1
        rw [modify_list _ _ _ (e := ⟨.int .i64 k, .bool false, clock⟩) (by simp)]
        simp
      rw [this]
      rfl
    · have hnot : k ∉ ks := fun hk' => by
        obtain ⟨x, hx, e⟩ := h.has.1 hk'
        exact h2 x hx e
      refine ⟨by simp [h.keys], ?_, ?_, ?_, ?_⟩
      · intro e he
        simp only [Array.toList_push, List.mem_append, List.mem_singleton] at he
        rcases he with he | rfl
        · exact h.vals e he
        · rfl
      · simp only [Array.toList_push, List.map_append, List.map_cons, List.map_nil]
        rw [List.nodup_append]
        refine ⟨h.once, by simp, ?_⟩
        intro a ha c hc
        simp only [List.mem_singleton] at hc
        subst hc
        obtain ⟨x, hx, rfl⟩ := List.mem_map.1 ha
        have := h.past x hx
        omega
      · intro e he
        simp only [Array.toList_push, List.mem_append, List.mem_singleton] at he
        rcases he with he | rfl
        · have := h.past e he
          omega
        · exact Nat.lt_succ_self _
      · rw [List.nodup_append]
        refine ⟨h.nodup, by simp, ?_⟩
        intro a ha c hc
        simp only [List.mem_singleton] at hc
        subst hc
        rintro rfl
        exact hnot ha
    · intro q
      simp
  · have hj : es[j]? = some e := by simpa using h2
    have hjl : e ∈ es.toList := by rw [Array.mem_toList_iff, Array.mem_iff_getElem?]; exact ⟨j, hj⟩
    have hsame : es.modify j (fun e => { e with key := .int .i64 k }) = es := by
      apply Array.toList_inj.1
      rw [modify_list _ _ _ hj]
      refine list_set_same _ _ _ ?_
      rw [h2]
      cases e
      simp only at h3
      subst h3
      rfl
    refine ⟨es, es, clock, e.val, (e.born : Int), ks, ?_, ?_, h, ?_⟩
    · intro W hb
      simp only [Instr.mapEntry, Sem.run_bind, run_underlying hm, MapKept.run_getObj_map hb, MapKept.run_checkKey hk hkey, MapKept.run_findKey hk h1, Result.andThen, MapKept.run_setObj_map _ hb, Nat.zero_add, hj, Option.map_some, Option.getD_some, h3, MapKept.run_keyThatStays hkey, hsame]
      rfl
    · intro W hb
      have hf : ∃ i, es.findIdx? (fun x => (x.born : Int) == (e.born : Int)) = some i ∧ ∃ x, es[i]? = some x := by
        cases hq : es.findIdx? (fun x => (x.born : Int) == (e.born : Int)) with
        | none =>
          rw [Array.findIdx?_eq_none_iff] at hq
          have := hq e (by simpa using hjl)
          simp at this
        | some i =>
          have := (Array.findIdx?_eq_some_iff_getElem.1 hq).1
          exact ⟨i, rfl, es[i], by simp [this]⟩
      obtain ⟨i, hf, x, hx⟩ := hf
      simp only [Instr.entryStore, Sem.run_bind, MapKept.run_getObj_map hb, asInt, asIntOf, Sem.run_pure, Result.andThen, hf, MapKept.run_setObj_map _ hb]
      have : es.modify i (fun e => { e with val := .bool true }) = es := by
        apply Array.toList_inj.1
        rw [modify_list _ _ _ hx]
        refine list_set_same _ _ _ ?_
        rw [Array.getElem?_toList, hx]
        have hv := h.vals x (by rw [Array.mem_toList_iff, Array.mem_iff_getElem?]; exact ⟨i, hx⟩)
        cases x
        simp only at hv
        subst hv
        rfl
      rw [this]
      rfl
    · intro q
      have : k ∈ ks := h.has.2 ⟨e, hjl, h3⟩
      constructor
      · exact .inl
      · rintro (h' | rfl)
        · exact h'
        · exact this
end

/-! ### A range over a set: L: which keys are still to come; cnt: how many -/
def Ranging (w : World) (r b : Nat) (L : Int → Prop) (cnt : Nat) : Prop :=
  ∃ (es : Array MapEntry) (clock : Nat) (seen : Array Nat) (ks : List Int), w.heap[b]? = some (.map es clock) ∧ IsSet es clock ks ∧ w.heap[r]? = some (.mapIter (some b) clock seen clock) ∧ (leftOf es seen).size = cnt ∧
    ∀ k, L k ↔ ∃ e ∈ es.toList, seen.contains e.born = false ∧ e.key = .int .i64 k
/-- But for block r the world is as it was. -/
structure Save (r : Nat) (w w' : World) : Prop where
  os : w'.os = w.os
  tape : w'.tape = w.tape
  output : w'.output = w.output
  size : w'.heap.size = w.heap.size
  block : ∀ q, q ≠ r → w'.heap[q]? = w.heap[q]?
theorem Save.below {B r : Nat} {w w1 w2 : World} (h : Below B w w1) (hs : Save r w1 w2) (hr : B ≤ r) : Below B w w2 :=
  h.trans ⟨hs.os, hs.tape, hs.output, Nat.le_of_eq hs.size.symm, fun k hk => hs.block k (by omega)⟩
theorem SetB.range {P : Program} {w : World} {b : Nat} {S : Int → Prop} (h : SetB w b S) (t k e : TypeId) (ht : P.underlying t = some (.map k e)) :
    ∃ o cnt, (Instr.range t (.map (some b))).run P w = .ok (.pointer (some ⟨w.heap.size, 0, none⟩)) (w.alloc o) ∧ Ranging (w.alloc o) w.heap.size b S cnt := by
  have hlt := h.lt
  obtain ⟨es, clock, ks, hb, hs, hS⟩ := h
  refine ⟨_, _, run_range_map w t k e b es clock ht hb, es, clock, #[], ks, ((MapKept.heap_alloc w _).2 b hlt).trans hb, hs, (MapKept.heap_alloc w _).1, rfl, fun q => ?_⟩
  rw [← hS, hs.has]
  simp
theorem Ranging.move {w w1 : World} {r b : Nat} {L : Int → Prop} {cnt : Nat} (h : Ranging w r b L cnt) (h1 : w1.heap[b]? = w.heap[b]?) (h2 : w1.heap[r]? = w.heap[r]?) : Ranging w1 r b L cnt := by
  obtain ⟨es, clock, seen, ks, a1, a2, a3, a4⟩ := h
  exact ⟨es, clock, seen, ks, h1.trans a1, a2, h2.trans a3, a4⟩
theorem Ranging.set {w : World} {r b : Nat} {L : Int → Prop} {cnt : Nat} (h : Ranging w r b L cnt) : ∃ S, SetB w b S := by
  obtain ⟨es, clock, seen, ks, a1, a2, a3, a4⟩ := h
  exact ⟨fun k => k ∈ ks, es, clock, ks, a1, a2, fun _ => Iff.rfl⟩
theorem Ranging.next {P : Program} {w : World} {r b : Nat} {L : Int → Prop} {cnt : Nat} (h : Ranging w r b L cnt) :
    (cnt = 0 ∧ (∀ k, ¬ L k) ∧ ∀ ty, (Instr.next (.pointer (some ⟨r, 0, none⟩)) false ty).run P w = .ok (.tuple #[.bool false]) w) ∨
    ∃ k w2 cnt2, L k ∧ (∀ ty, (Instr.next (.pointer (some ⟨r, 0, none⟩)) false ty).run P w = .ok (.tuple #[.bool true, .int .i64 k, .bool true]) w2) ∧
      (Instr.entry (.pointer (some ⟨r, 0, none⟩))).run P w2 = .ok (.tuple #[.int .i64 k, .bool true]) w2 ∧ Ranging w2 r b (fun q => L q ∧ q ≠ k) cnt2 ∧ cnt2 < cnt ∧ Save r w w2 := by
  obtain ⟨es, clock, seen, ks, hb, hs, hr, rfl, hL⟩ := h
  have hne : b ≠ r := by
    rintro rfl
    rw [hb] at hr
    cases hr
  by_cases h0 : (leftOf es seen).size = 0
  · refine .inl ⟨h0, fun k hk => ?_, fun ty => ?_⟩
    · obtain ⟨e, he, hn, _⟩ := (hL k).1 hk
      rw [all_seen es seen h0 e he] at hn
      cases hn
    · rcases run_next_at (P := P) w ty r b clock clock seen es clock hr hb hs.past (Nat.le_refl _) with ⟨_, hrun⟩ | ⟨e, he, _⟩
      · exact hrun
      · have : leftOf es seen = #[] := Array.eq_empty_of_size_eq_zero h0
        rw [this] at he
        cases he
  · have key : ∃ e ∈ (leftOf es seen).toList, ∃ w1 : World, (w1 = w ∨ w1 = w.drew) ∧ ∀ ty, (Instr.next (.pointer (some ⟨r, 0, none⟩)) false ty).run P w = .ok (.tuple #[.bool true, e.key, e.val]) (setBlock w1 r (.mapIter (some b) clock (seen.push e.born) clock)) := by
      rcases run_next_at (P := P) w 0 r b clock clock seen es clock hr hb hs.past (Nat.le_refl _) with ⟨h, _⟩ | ⟨e, he, w1, hw, hrun⟩
      · exact absurd h h0
      · exact ⟨e, he, w1, hw, fun ty => hrun⟩
    obtain ⟨e, he, w1, hw, hrun⟩ := key
    obtain ⟨hem, hes⟩ := mem_left he
    have hkm : e.key ∈ es.toList.map (·.key) := List.mem_map.2 ⟨e, hem, rfl⟩
    rw [hs.keys] at hkm
    obtain ⟨k, _, hk⟩ := List.mem_map.1 hkm
    have hv := hs.vals e hem
    have hr1 : w1.heap[r]? = some (.mapIter (some b) clock seen clock) := by rcases hw with rfl | rfl <;> exact hr
    have hb1 : w1.heap[b]? = some (.map es clock) := by rcases hw with rfl | rfl <;> exact hb
    have hset := heap_set (o' := .mapIter (some b) clock (seen.push e.born) clock) hr1
    have hb' : (setBlock w1 r (.mapIter (some b) clock (seen.push e.born) clock)).heap[b]? = some (.map es clock) := (hset.2 b hne).trans hb1
    refine .inr ⟨k, _, _, (hL k).2 ⟨e, hem, hes, hk.symm⟩, fun ty => ?_, ?_, ⟨es, clock, seen.push e.born, ks, hb', hs, hset.1, rfl, fun q => ?_⟩, left_shrinks es seen e he, ?_⟩
    · rw [hrun ty, hv, ← hk]
    · rw [run_entry_at _ r b clock seen es clock e hset.1 hb' hem hs.once, hv, ← hk]
    · constructor
      · rintro ⟨hq, hqk⟩
        obtain ⟨x, hx, hxs, hxk⟩ := (hL q).1 hq
        refine ⟨x, hx, ?_, hxk⟩
        rw [contains_push, hxs, Bool.false_or, beq_eq_false_iff_ne]
        intro eb
        have := born_inj hs.once hx hem eb
        subst this
        rw [hxk] at hk
        injection hk with _ hk
        exact hqk hk.symm
      · rintro ⟨x, hx, hxs, hxk⟩
        rw [contains_push, Bool.or_eq_false_iff, beq_eq_false_iff_ne] at hxs
        refine ⟨(hL q).2 ⟨x, hx, hxs.1, hxk⟩, ?_⟩
        rintro rfl
        apply hxs.2
        have hn : (es.toList.map (·.key)).Nodup := by
          rw [hs.keys]
          exact nodup_map (fun a c h => by injection h) hs.nodup
        have : x = e := by
          have hxe : x.key = e.key := by rw [hxk, hk]
          have : ∀ (l : List MapEntry), (l.map (·.key)).Nodup → x ∈ l → e ∈ l → x = e := by
            intro l
            induction l with
            | nil => intro _ h; cases h
            | cons a l ih =>
              intro hnd hx he
              simp only [List.map_cons, List.nodup_cons] at hnd
              rcases List.mem_cons.1 hx with rfl | hx' <;> rcases List.mem_cons.1 he with rfl | he'
              · rfl
              · exact absurd (List.mem_map.2 ⟨e, he', hxe.symm⟩) hnd.1
              · exact absurd (List.mem_map.2 ⟨x, hx', hxe⟩) hnd.1
              · exact ih hnd.2 hx' he'
          exact this _ hn hx hem
        rw [this]
    · rcases hw with rfl | rfl <;> exact ⟨rfl, rfl, rfl, by simp [setBlock], fun q hq => hset.2 q hq⟩
/-- How many: a set of numbers below n. -/
theorem SetB.len {P : Program} {w : World} {b n : Nat} {p : Nat → Bool} (h : SetB w b (fun k => ∃ k' : Nat, k = k' ∧ k' < n ∧ p k' = true)) (t k e : TypeId) (ht : P.underlying t = some (.map k e)) (ty : TypeId) :
    (Builtin.len_ #[t] ty #[.map (some b)]).run P w = .ok (.int .i64 (((List.range n).filter p).length : Nat)) w := by
  obtain ⟨es, clock, ks, hb, hs, hS⟩ := h
  have hl : es.size = ((List.range n).filter p).length := by
    rw [hs.length]
    have : ks.Perm (((List.range n).filter p).map fun x : Nat => (x : Int)) := by
      refine (List.perm_ext_iff_of_nodup hs.nodup ?_).2 fun q => ?_
      · exact nodup_map (fun a c h => Int.ofNat.inj h) (List.nodup_range.filter _)
      · rw [hS]
        simp only [List.mem_map, List.mem_filter, List.mem_range]
        constructor
        · rintro ⟨k', rfl, a, c⟩
          exact ⟨k', ⟨a, c⟩, rfl⟩
        · rintro ⟨k', ⟨a, c⟩, rfl⟩
          exact ⟨k', rfl, a, c⟩
    rw [this.length_eq, List.length_map]
  simp only [Builtin.len_, List.getElem?_toArray, List.getElem?_cons_zero, Sem.run_bind, run_underlying ht, MapKept.run_getObj_map hb, Result.andThen, hl]
  rfl
end Go.Proofs.Ytljacnpadelilaa
