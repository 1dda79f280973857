import Derived.Test.YtljacnpadelilaaMem
import Derived.Test.YtljacnpadelilaaPRegallocColorsx3
namespace Go.Proofs.Ytljacnpadelilaa
open Go.RowKit Go.Proofs.YtljacnpadelilaaW.PrintWords Go.Proofs.YtljacnpadelilaaW.PrintLast Go.Proofs.YtljacnpadelilaaW.PrintMore
open Go.ChangeMaps (setBlock)
theorem info29 : (Try.prog.info? 29).map (fun i => (i.zero, i.size, i.bytes)) = some (some (.map none), 1, 8) := by kernel_rfl
theorem zero4 (W : World) : (zeroValue 4).run Try.prog W = .ok (.bool false) W := by kernel_rfl

/-- The first loop: i maps are made. -/
def NbA (w wr : World) (n i : Nat) : Prop :=
  i ≤ n ∧ wr.heap.size = w.heap.size + 1 + i ∧ Blk wr w.heap.size ((List.range n).map fun j => if j < i then Value.map (some (w.heap.size + 1 + j)) else .map none) 29 ∧
    (∀ j, j < i → wr.heap[w.heap.size + 1 + j]? = some (.map #[] 0)) ∧ Below w.heap.size w wr
theorem NbA.start (w : World) (n : Nat) : NbA w (w.alloc (.cells (madeCells #[.map none] n) 29)) n 0 := by
  refine ⟨Nat.zero_le _, by simp, ?_, fun j hj => absurd hj (Nat.not_lt_zero _), (Below.refl _ _).alloc (Nat.le_refl _) _⟩
  have : (madeCells #[Value.map none] n) = ((List.range n).map fun j => if j < 0 then Value.map (some (w.heap.size + 1 + j)) else .map none).toArray := by
    apply Array.toList_inj.1
    apply List.ext_getElem
    · simp [madeCells]
    · intro i h1 h2
      simp [madeCells, Nat.mod_one]
  rw [this]
  exact Blk.new _ _
theorem NbA.step {w wr : World} {n i : Nat} (h : NbA w wr n i) (hi : i < n) : NbA w ((wr.setCell ⟨w.heap.size, i, none⟩ (.map (some wr.heap.size))).alloc (.map #[] 0)) n (i + 1) := by
  obtain ⟨_, hs, hb, hm, hB⟩ := h
  refine ⟨hi, by simp [hs]; omega, ?_, ?_, (hB.setCell (Nat.le_refl _) _).alloc (by simp [hs]; omega) _⟩
  · have := (hb.set i (.map (some wr.heap.size))).alloc (.map #[] 0)
    have e : (((List.range n).map fun j => if j < i then Value.map (some (w.heap.size + 1 + j)) else .map none).set i (.map (some wr.heap.size))) =
        (List.range n).map fun j => if j < i + 1 then Value.map (some (w.heap.size + 1 + j)) else .map none := by
      apply List.ext_getElem
      · simp
      · intro j h1 h2
        simp only [List.getElem_set, List.getElem_map, List.getElem_range]
        by_cases hj : i = j
        · subst hj
          rw [if_pos rfl, if_pos (by omega), hs]
        · rw [if_neg hj]
          by_cases hj2 : j < i
          · rw [if_pos hj2, if_pos (by omega)]
          · rw [if_neg hj2, if_neg (by omega)]
    rw [e] at this
    exact this
  · intro j hj
    by_cases hji : j = i
    · subst hji
      have := heap_alloc_new (wr.setCell ⟨w.heap.size, j, none⟩ (.map (some wr.heap.size))) (.map #[] 0)
      rw [World.size_setCell, hs] at this
      rw [hs]
      exact this
    · have h1 := hm j (by omega)
      rw [Below.heap_alloc _ _ _ (by simp [hs]; omega), Below.heap_setCell _ _ _ _ (by simp; omega)]
      exact h1

/-- The second loop: the maps are sets; D: which pairs have been seen. -/
def NbB (w wr : World) (n : Nat) (D : Nat → Nat → Prop) : Prop :=
  wr.heap.size = w.heap.size + 1 + n ∧ Blk wr w.heap.size ((List.range n).map fun j => Value.map (some (w.heap.size + 1 + j))) 29 ∧
    (∀ j, j < n → SetB wr (w.heap.size + 1 + j) (fun k => ∃ k' : Nat, k = k' ∧ k' < n ∧ k' ≠ j ∧ (D j k' ∨ D k' j))) ∧ Below w.heap.size w wr
theorem NbB.start {w wr : World} {n : Nat} (h : NbA w wr n n) : NbB w wr n (fun _ _ => False) := by
  obtain ⟨_, hs, hb, hm, hB⟩ := h
  refine ⟨hs, ?_, fun j hj => (SetB.empty (hm j hj)).congr (by simp), hB⟩
  have e : ((List.range n).map fun j => if j < n then Value.map (some (w.heap.size + 1 + j)) else .map none) = (List.range n).map fun j => Value.map (some (w.heap.size + 1 + j)) := by
    apply List.map_congr_left
    intro j hj
    rw [if_pos (List.mem_range.1 hj)]
  rw [e] at hb
  exact hb
theorem NbB.congr {w wr : World} {n : Nat} {D D' : Nat → Nat → Prop} (h : NbB w wr n D) (hd : ∀ a b, a < n → b < n → a ≠ b → (D a b ↔ D' a b)) : NbB w wr n D' := by
  obtain ⟨hs, hb, hm, hB⟩ := h
  refine ⟨hs, hb, fun j hj => (hm j hj).congr fun k => ?_, hB⟩
  constructor
  · rintro ⟨k', rfl, h1, h2, h3⟩
    exact ⟨k', rfl, h1, h2, h3.imp (hd _ _ hj h1 (Ne.symm h2)).1 (hd _ _ h1 hj h2).1⟩
  · rintro ⟨k', rfl, h1, h2, h3⟩
    exact ⟨k', rfl, h1, h2, h3.imp (hd _ _ hj h1 (Ne.symm h2)).2 (hd _ _ h1 hj h2).2⟩

/-- One pair more. -/
theorem NbB.put {w wr wr' : World} {n : Nat} {D : Nat → Nat → Prop} (h : NbB w wr n D) {i k : Nat} (hi : i < n) (hk : k < n) (hik : i ≠ k)
    (hs : wr'.heap.size = wr.heap.size) (hf : ∀ q, q ≠ w.heap.size + 1 + i → q ≠ w.heap.size + 1 + k → wr'.heap[q]? = wr.heap[q]?) (ho : wr'.os = wr.os) (ht : wr'.tape = wr.tape) (hu : wr'.output = wr.output)
    (h1 : ∀ S, SetB wr (w.heap.size + 1 + i) S → SetB wr' (w.heap.size + 1 + i) (fun q => S q ∨ q = k))
    (h2 : ∀ S, SetB wr (w.heap.size + 1 + k) S → SetB wr' (w.heap.size + 1 + k) (fun q => S q ∨ q = i)) : NbB w wr' n (fun a b => D a b ∨ (a = i ∧ b = k)) := by
  obtain ⟨h0, hb, hm, hB⟩ := h
  refine ⟨hs.trans h0, hb.move (hf _ (by omega) (by omega)), fun j hj => ?_, hB.trans ⟨ho, ht, hu, by omega, fun q hq => hf q (by omega) (by omega)⟩⟩
  by_cases e1 : j = i
  · subst e1
    refine (h1 _ (hm j hj)).congr fun q => ?_
    constructor
    · rintro (⟨k', rfl, a1, a2, a3⟩ | rfl)
      · exact ⟨k', rfl, a1, a2, a3.imp .inl .inl⟩
      · exact ⟨k, rfl, hk, Ne.symm hik, .inl (.inr ⟨rfl, rfl⟩)⟩
    · rintro ⟨k', rfl, a1, a2, (a3 | ⟨_, rfl⟩) | (a3 | ⟨rfl, rfl⟩)⟩
      · exact .inl ⟨k', rfl, a1, a2, .inl a3⟩
      · exact .inr rfl
      · exact .inl ⟨k', rfl, a1, a2, .inr a3⟩
      · exact absurd rfl a2
  · by_cases e2 : j = k
    · subst e2
      refine (h2 _ (hm j hj)).congr fun q => ?_
      constructor
      · rintro (⟨k', rfl, a1, a2, a3⟩ | rfl)
        · exact ⟨k', rfl, a1, a2, a3.imp .inl .inl⟩
        · exact ⟨i, rfl, hi, hik, .inr (.inr ⟨rfl, rfl⟩)⟩
      · rintro ⟨k', rfl, a1, a2, (a3 | ⟨rfl, rfl⟩) | (a3 | ⟨rfl, _⟩)⟩
        · exact .inl ⟨k', rfl, a1, a2, .inl a3⟩
        · exact absurd rfl a2
        · exact .inl ⟨k', rfl, a1, a2, .inr a3⟩
        · exact .inr rfl
    · refine ((hm j hj).move (hf _ (by omega) (by omega))).congr fun q => ?_
      constructor
      · rintro ⟨k', rfl, a1, a2, a3⟩
        exact ⟨k', rfl, a1, a2, a3.imp .inl .inl⟩
      · rintro ⟨k', rfl, a1, a2, (a3 | ⟨rfl, rfl⟩) | (a3 | ⟨rfl, rfl⟩)⟩
        · exact ⟨k', rfl, a1, a2, .inl a3⟩
        · exact absurd rfl e1
        · exact ⟨k', rfl, a1, a2, .inr a3⟩
        · exact absurd rfl e2

/-- Two maps get an entry, in whatever order: b1 ≠ b2. -/
def TwoPut (w w' : World) (b1 b2 : Nat) (x1 x2 : Array MapEntry) (c1 c2 : Nat) : Prop :=
  w'.heap.size = w.heap.size ∧ (∀ q, q ≠ b1 → q ≠ b2 → w'.heap[q]? = w.heap[q]?) ∧ w'.os = w.os ∧ w'.tape = w.tape ∧ w'.output = w.output ∧ w'.heap[b1]? = some (.map x1 c1) ∧ w'.heap[b2]? = some (.map x2 c2)

theorem TwoPut.set {w : World} {b1 b2 : Nat} {x1 x2 y1 y2 z1 z2 : Array MapEntry} {c1 c2 d1 d2 : Nat} (h1 : w.heap[b1]? = some (.map x1 c1)) (h2 : w.heap[b2]? = some (.map x2 c2)) (hne : b1 ≠ b2) :
    TwoPut w (setBlock (setBlock (setBlock (setBlock w.drew b1 (.map y1 d1)) b1 (.map z1 d1)) b2 (.map y2 d2)) b2 (.map z2 d2)) b1 b2 z1 z2 d1 d2 := by
  refine ⟨by simp [size_setBlock], fun q a1 a2 => by simp only [heap_setBlock_far a1, heap_setBlock_far a2]; rfl, rfl, rfl, rfl, ?_, ?_⟩
  · rw [heap_setBlock_far hne, heap_setBlock_far hne]
    exact heap_setBlock_same (o := .map y1 d1) (heap_setBlock_same (o := .map x1 c1) h1)
  · refine heap_setBlock_same (o := .map y2 d2) (heap_setBlock_same (o := .map x2 c2) ?_)
    rw [heap_setBlock_far (Ne.symm hne), heap_setBlock_far (Ne.symm hne)]
    exact h2
theorem NbB.two {w wr wr' : World} {n : Nat} {D : Nat → Nat → Prop} (h : NbB w wr n D) {i k : Nat} (hi : i < n) (hk : k < n) (hik : i ≠ k) {x1 x2 z1 z2 : Array MapEntry} {c1 c2 d1 d2 : Nat} {ks1 ks2 ks1' ks2' : List Int}
    (hx1 : wr.heap[w.heap.size + 1 + i]? = some (.map x1 c1)) (hx2 : wr.heap[w.heap.size + 1 + k]? = some (.map x2 c2)) (hS1 : IsSet x1 c1 ks1) (hS2 : IsSet x2 c2 ks2) (hS1' : IsSet z1 d1 ks1') (hS2' : IsSet z2 d2 ks2')
    (hm1 : ∀ q, q ∈ ks1' ↔ q ∈ ks1 ∨ q = (k : Int)) (hm2 : ∀ q, q ∈ ks2' ↔ q ∈ ks2 ∨ q = (i : Int)) (ht : TwoPut wr wr' (w.heap.size + 1 + i) (w.heap.size + 1 + k) z1 z2 d1 d2) : NbB w wr' n (fun a b => D a b ∨ (a = i ∧ b = k)) := by
  obtain ⟨t1, t2, t3, t4, t5, t6, t7⟩ := ht
  have same : ∀ {x1 x1' : Array MapEntry} {c1 c1' : Nat} {ks1 ks1' : List Int}, some (Obj.map x1 c1) = some (Obj.map x1' c1') → IsSet x1 c1 ks1 → IsSet x1' c1' ks1' → ∀ q, q ∈ ks1 ↔ q ∈ ks1' := by
    intro x1 x1' c1 c1' ks1 ks1' e h1 h2 q
    injection e with e
    injection e with e1 e2
    subst e1
    rw [h1.has, h2.has]
  refine h.put hi hk hik t1 t2 t3 t4 t5 (fun S hS => ?_) (fun S hS => ?_)
  · obtain ⟨es, clock, ks, a1, a2, a3⟩ := hS
    refine ⟨z1, d1, ks1', t6, hS1', fun q => ?_⟩
    show q ∈ ks1' ↔ S q ∨ q = k
    rw [hm1, ← a3, same (a1.symm.trans hx1) a2 hS1]
  · obtain ⟨es, clock, ks, a1, a2, a3⟩ := hS
    refine ⟨z2, d2, ks2', t7, hS2', fun q => ?_⟩
    show q ∈ ks2' ↔ S q ∨ q = i
    rw [hm2, ← a3, same (a1.symm.trans hx2) a2 hS2]
theorem mem_take_succ {es : List Int} {m : Nat} (h : m < es.length) (q : Int) : q ∈ es.take (m + 1) ↔ q ∈ es.take m ∨ q = rd es m := by
  have : rd es m = es[m] := by simp [rd, List.getD_eq_getElem?_getD, h]
  rw [List.take_succ_eq_append_getElem h, List.mem_append, List.mem_singleton, this]

/-- Which nodes are adjacent: one lists the other one. -/
def adjOf (l : List (List Int)) (a b : Nat) : Prop := a ≠ b ∧ ((b : Int) ∈ l.getD a [] ∨ (a : Int) ∈ l.getD b [])
/-- A row of maps, behind it the maps: the neighbors of each of n nodes. -/
def AdjB (w : World) (g n : Nat) (adj : Nat → Nat → Prop) : Prop :=
  Blk w g ((List.range n).map fun j => Value.map (some (g + 1 + j))) 29 ∧ ∀ j, j < n → SetB w (g + 1 + j) (fun k => ∃ k' : Nat, k = k' ∧ k' < n ∧ adj j k')
theorem NbB.adj {w wr : World} {l : List (List Int)} (h : NbB w wr l.length (fun a b => a < l.length ∧ (b : Int) ∈ l.getD a [])) : AdjB wr w.heap.size l.length (adjOf l) := by
  obtain ⟨_, hb, hm, _⟩ := h
  refine ⟨hb, fun j hj => (hm j hj).congr fun q => ?_⟩
  constructor
  · rintro ⟨k', rfl, a1, a2, a3⟩
    exact ⟨k', rfl, a1, Ne.symm a2, a3.imp (·.2) (·.2)⟩
  · rintro ⟨k', rfl, a1, a2, a3⟩
    exact ⟨k', rfl, a1, Ne.symm a2, a3.imp (⟨hj, ·⟩) (⟨a1, ·⟩)⟩

set_option maxHeartbeats 8000000 in
set_option maxRecDepth 100000 in
theorem neighbors_calls (A0 : Option Addr) (c0 : Nat) (l0 : List (List Int)) (w : World) (hr0 : Kd.C (Kd.slice 3 (Kd.int .i64)) w A0 l0.length l0) (hc0 : l0.length ≤ c0) (hl : l0.length ≤ 1000) :
    Calls Try.prog 85 #[.slice A0 l0.length c0] w fun e w' => e = .returned (.slice (some ⟨w.heap.size, 0, none⟩) l0.length l0.length) ∧ AdjB w' w.heap.size l0.length (adjOf l0) ∧ Below w.heap.size w w' := by
  obtain ⟨n, hn⟩ : ∃ n, n = l0.length := ⟨_, rfl⟩
  have HN := Aside0.mk hn
  have HR := Aside0.mk hr0
  have HF : Aside0 (∀ wr, NbB w wr n (fun a b => a < n ∧ (b : Int) ∈ l0.getD a []) → AdjB wr w.heap.size n (adjOf l0) ∧ Below w.heap.size w wr) := ⟨fun wr h => by
    subst hn
    exact ⟨h.adj, h.2.2.2⟩⟩
  rw [← hn] at hl hc0 ⊢
  clear hn hr0
  have hmk : ∀ W : World, (Instr.makeSlice 133 (.int .i64 (n : Int)) (.int .i64 (n : Int))).run Try.prog W = .ok (.slice (some ⟨W.heap.size, 0, none⟩) n n) (W.alloc (.cells (madeCells #[.map none] n) 29)) := fun W =>
    run_make_row' 133 29 (.map none) 8 Try.underlying133 info29 rfl .i64 .i64 n (by omega) (by omega) W
  have hmm := @run_makeMap Try.prog
  go_enter Try.func85, Try.ntmps85
  go_wp2_with fail
  go_loopg [14] n (fun k v wr => ∃ i : Nat, v = .int .i64 i ∧ Aside0 (i + k = n) ∧ NbA w wr n i)
  case atStart => exact ⟨0, rfl, ⟨by omega⟩, NbA.start w n⟩
  case round =>
    obtain ⟨i, rfl, HK, HA⟩ := hrel
    have hsz : w.heap.size < wr.heap.size := by have := HA.2.1; omega
    by_cases hlt : i < n
    · have hc : wr.cell? ⟨w.heap.size, i, none⟩ = some (.map none) := by
        rw [HA.2.2.1.cell]
        simp [hlt]
      have hf : wr.frozen? ⟨w.heap.size, i, none⟩ = false := HA.2.2.1.frozen i
      go_wp2_with fail
      go_roundg (gk - 1)
      case measure => have := HK.out; omega
      case rel => exact ⟨i + 1, by go_num, ⟨by have := HK.out; omega⟩, HA.step hlt⟩
    · have hin : i = n := by have := HA.1; omega
      have HB : NbB w wr n (fun _ _ => False) := NbB.start (hin ▸ HA)
      clear hin HA hmk hmm HK
      go_wp2_with fail
      go_loopg [24] n (fun k v wr => ∃ i : Nat, v = .int .i64 i ∧ Aside0 (i + k = n) ∧ NbB w wr n (fun a b => a < i ∧ (b : Int) ∈ l0.getD a []))
      case atStart => exact ⟨0, rfl, ⟨by omega⟩, HB.congr (by simp)⟩
      case round =>
        obtain ⟨i, rfl, HK, HA⟩ := hrel
        have hsz : wr.heap.size = w.heap.size + 1 + n := HA.1
        have HS := Aside0.mk hsz
        clear hsz
        by_cases hlt : i < n
        · obtain ⟨ad, A1, c1, rfl, hc, hc1, HR1⟩ := PRegallocColors.at_L1 HR.out (i : Int) (by omega) (by have := HN.out; omega)
          have hadb : ad.block < w.heap.size := World.block_lt_of_cell? w _ hc |> fun h => by simpa [Addr.add] using (by unfold Addr.add at h; split at h <;> exact h : ad.block < w.heap.size)
          have hc' : wr.cell? (ad.add i) = some (.slice A1 (l0.getD i []).length c1) := by
            have := pw_cell_below HA.2.2.2 hc
            simpa [PRegallocColors.rd_L1] using this
          obtain ⟨es, hes⟩ : ∃ es, es = l0.getD i [] := ⟨_, rfl⟩
          rw [← hes] at hc'
          have HE := Aside0.mk hes
          have HR1' : Aside0 ((Kd.int .i64).C w A1 es.length es) := ⟨by rw [hes]; simpa [PRegallocColors.rd_L1] using HR1⟩
          clear hes HR1 hc hadb
          have hsl : es.length ≤ 9223372036854775807 := HR1'.out.2.1
          obtain ⟨go, rfl⟩ : ∃ g : Nat, g = gk := ⟨_, rfl⟩
          obtain ⟨wo, rfl⟩ : ∃ g : World, g = wr := ⟨_, rfl⟩
          go_wp2_with fail
          go_loopg [31] es.length (fun k v wr => ∃ m : Nat, v = .int .i64 m ∧ Aside0 (m + k = es.length) ∧ NbB w wr n (fun a b => (a < i ∧ (b : Int) ∈ l0.getD a []) ∨ (a = i ∧ (b : Int) ∈ es.take m)))
          case atStart => exact ⟨0, rfl, ⟨by omega⟩, HA.congr (by simp)⟩
          case round =>
            obtain ⟨m, rfl, HM, HB⟩ := hrel
            by_cases hmt : m < es.length
            · obtain ⟨ae, he, hx⟩ := Kd.at_int HR1'.out (m : Int) (by omega) (by omega)
              obtain rfl := he
              have hx' : wr.cell? (ae.add m) = some (.int .i64 (rd es m)) := by
                have := pw_cell_below HB.2.2.2 hx
                simpa using this
              clear hx
              obtain ⟨kq, hkq⟩ : ∃ kq, kq = rd es m := ⟨_, rfl⟩
              rw [← hkq] at hx'
              have HKQ := Aside0.mk hkq
              clear hkq
              by_cases hv : 0 ≤ kq ∧ kq < n ∧ kq ≠ i
              · obtain ⟨v1, v2, v3⟩ := hv
                obtain ⟨k, rfl⟩ := Int.eq_ofNat_of_zero_le v1
                have hki : k ≠ i := fun e => v3 (by rw [e])
                have hkn : k < n := by omega
                obtain ⟨b1, hb1⟩ : ∃ b1, b1 = w.heap.size + 1 + i := ⟨_, rfl⟩
                obtain ⟨b2, hb2⟩ : ∃ b2, b2 = w.heap.size + 1 + k := ⟨_, rfl⟩
                obtain ⟨x1, c1, ks1, hx1, hS1, hm1⟩ := HB.2.2.1 i hlt
                obtain ⟨x2, c2, ks2, hx2, hS2, hm2⟩ := HB.2.2.1 k hkn
                rw [← hb1] at hx1
                rw [← hb2] at hx2
                obtain ⟨y1, z1, d1, p1, st1, ks1', he1, hs1, hS1', hm1'⟩ := hS1.entry (P := Try.prog) Try.underlying29 Try.underlying3 zero4 b1 (k : Int)
                obtain ⟨y2, z2, d2, p2, st2, ks2', he2, hs2, hS2', hm2'⟩ := hS2.entry (P := Try.prog) Try.underlying29 Try.underlying3 zero4 b2 (i : Int)
                have hne : b1 ≠ b2 := by omega
                have hne' : b2 ≠ b1 := by omega
                have hg1 : w.heap.size ≠ b1 := by omega
                have hg2 : w.heap.size ≠ b2 := by omega
                have hstep : Aside0 (∀ W', TwoPut wr W' b1 b2 z1 z2 d1 d2 → NbB w W' n (fun a b => (a < i ∧ (b : Int) ∈ l0.getD a []) ∨ (a = i ∧ (b : Int) ∈ es.take (m + 1)))) := by
                  refine ⟨fun W' hW' => ?_⟩
                  subst hb1
                  subst hb2
                  refine (HB.two hlt hkn (Ne.symm hki) hx1 hx2 hS1 hS2 hS1' hS2' hm1' hm2' hW').congr fun a b _ _ _ => ?_
                  rw [mem_take_succ hmt, ← HKQ.out]
                  constructor
                  · rintro ((h | ⟨h, h'⟩) | ⟨h, rfl⟩)
                    · exact .inl h
                    · exact .inr ⟨h, .inl h'⟩
                    · exact .inr ⟨h, .inr rfl⟩
                  · rintro (h | ⟨h, h' | h'⟩)
                    · exact .inl (.inl h)
                    · exact .inl (.inr ⟨h, h'⟩)
                    · exact .inr ⟨h, by omega⟩
                have hcell1 : wr.cell? ⟨w.heap.size, i, none⟩ = some (.map (some b1)) := by
                  rw [HB.2.1.cell, hb1]
                  simp [hlt]
                have hcell2 : wr.cell? ⟨w.heap.size, k, none⟩ = some (.map (some b2)) := by
                  rw [HB.2.1.cell, hb2]
                  simp [hkn]
                have r1 : ∀ (W : World) (o : Obj), (setBlock W b2 o).heap[b1]? = W.heap[b1]? := fun W o => heap_setBlock_far hne
                have r2 : ∀ (W : World) (o : Obj), (setBlock W b1 o).heap[b2]? = W.heap[b2]? := fun W o => heap_setBlock_far hne'
                have r3 : ∀ W : World, W.heap[b1]? = some (.map x1 c1) → (setBlock W b1 (.map y1 d1)).heap[b1]? = some (.map y1 d1) := fun W h => heap_setBlock_same h
                have r4 : ∀ W : World, W.heap[b2]? = some (.map x2 c2) → (setBlock W b2 (.map y2 d2)).heap[b2]? = some (.map y2 d2) := fun W h => heap_setBlock_same h
                have r6 : ∀ (W : World) (j : Nat) (o : Obj), (setBlock W b1 o).cell? ⟨w.heap.size, j, none⟩ = W.cell? ⟨w.heap.size, j, none⟩ := fun W j o => cell_setBlock_far hg1
                have r7 : ∀ (W : World) (j : Nat) (o : Obj), (setBlock W b2 o).cell? ⟨w.heap.size, j, none⟩ = W.cell? ⟨w.heap.size, j, none⟩ := fun W j o => cell_setBlock_far hg2
                have r8 : ∀ (W : World) (b : Nat), W.drew.heap[b]? = W.heap[b]? := fun W b => rfl
                have HB1 := Aside0.mk hb1
                have HB2 := Aside0.mk hb2
                have HNE := Aside0.mk hne
                clear hb1 hb2 hS1 hS2 hm1 hm2 hS1' hS2' hm1' hm2' hne hne' hg1 hg2
                go_wp2_with fail
                go_region
                go_wp2_with fail
                go_roundg (gk - 1)
                case measure => have := HM.out; omega
                case rel =>
                  refine ⟨m + 1, by go_num, ⟨by have := HM.out; omega⟩, ?_⟩
                  exact hstep.out _ (TwoPut.set hx1 hx2 HNE.out)
              · have hsame : Aside0 (NbB w wr n (fun a b => (a < i ∧ (b : Int) ∈ l0.getD a []) ∨ (a = i ∧ (b : Int) ∈ es.take (m + 1)))) := by
                  refine ⟨HB.congr fun a b ha hb' hab => ?_⟩
                  rw [mem_take_succ hmt, ← HKQ.out]
                  refine ⟨fun h => h.imp id fun ⟨h1, h2⟩ => ⟨h1, .inl h2⟩, fun h => h.imp id fun ⟨h1, h2⟩ => ⟨h1, h2.resolve_right fun e => hv ⟨by omega, by omega, fun e' => hab (by omega)⟩⟩⟩
                by_cases h1 : 0 ≤ kq
                · by_cases h2 : kq < n
                  · have h3 : (kq != (i : Int)) = false := by
                      have : kq = i := Classical.byContradiction fun e => hv ⟨h1, h2, e⟩
                      simp [this]
                    go_wp2_with fail
                    go_roundg (gk - 1)
                    case measure => have := HM.out; omega
                    case rel => exact ⟨m + 1, by go_num, ⟨by have := HM.out; omega⟩, hsame.out⟩
                  · go_wp2_with fail
                    go_roundg (gk - 1)
                    case measure => have := HM.out; omega
                    case rel => exact ⟨m + 1, by go_num, ⟨by have := HM.out; omega⟩, hsame.out⟩
                · go_wp2_with fail
                  go_roundg (gk - 1)
                  case measure => have := HM.out; omega
                  case rel => exact ⟨m + 1, by go_num, ⟨by have := HM.out; omega⟩, hsame.out⟩
            · have hnext : Aside0 (NbB w wr n (fun a b => a < i + 1 ∧ (b : Int) ∈ l0.getD a [])) := by
                refine ⟨HB.congr fun a b _ _ _ => ?_⟩
                rw [List.take_of_length_le (by omega), HE.out]
                constructor
                · rintro (⟨h1, h2⟩ | ⟨rfl, h2⟩)
                  · exact ⟨by omega, h2⟩
                  · exact ⟨by omega, h2⟩
                · rintro ⟨h1, h2⟩
                  rcases Nat.lt_succ_iff_lt_or_eq.1 h1 with h1 | rfl
                  · exact .inl ⟨h1, h2⟩
                  · exact .inr ⟨rfl, h2⟩
              go_wp2_with fail
              go_roundg (go - 1)
              case measure => have := HK.out; omega
              case rel => exact ⟨i + 1, by go_num, ⟨by have := HK.out; omega⟩, hnext.out⟩
        · go_wp2_with fail
          go_ret
          have : i = n := by have := HK.out; omega
          subst this
          exact ⟨rfl, HF.out _ HA⟩
end Go.Proofs.Ytljacnpadelilaa
