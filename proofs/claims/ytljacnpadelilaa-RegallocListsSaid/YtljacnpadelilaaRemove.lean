/- regalloc.remove returns the nodes in the order of their removal. Condition: the maps are the neighbors of at most 1000 nodes. -/
import Derived.Test.YtljacnpadelilaaNeigh
import Derived.Test.YtljacnpadelilaaCol
import Derived.Deep.DeepMust
namespace Go.Proofs.Ytljacnpadelilaa
open Go.RowKit Go.Proofs.YtljacnpadelilaaW.PrintWords Go.Proofs.YtljacnpadelilaaW.PrintLast Go.Proofs.YtljacnpadelilaaW.PrintMore
open Go.ChangeMaps (setBlock)
open Col
theorem info3 : (Try.prog.info? 3).map (fun i => (i.zero, i.size, i.bytes)) = some (some (.int .i64 0), 1, 8) := by kernel_rfl
theorem info4 : (Try.prog.info? 4).map (fun i => (i.zero, i.size, i.bytes)) = some (some (.bool false), 1, 1) := by kernel_rfl
theorem AdjB.below {w w' : World} {g n B : Nat} {adj : Nat → Nat → Prop} (h : AdjB w g n adj) (hb : Below B w w') (hg : g + n < B) : AdjB w' g n adj :=
  ⟨h.1.below hb (by omega), fun j hj => (h.2 j hj).move (hb.block _ (by omega))⟩
theorem made_list (z : Value) (n : Nat) : (madeCells #[z] n).toList = (List.range n).map fun _ => z := by
  apply List.ext_getElem
  · simp [madeCells]
  · intro i h1 h2
    simp [madeCells, Nat.mod_one]
theorem map_range_set {α : Type} (n i : Nat) (f : Nat → α) (x : α) : ((List.range n).map f).set i x = (List.range n).map fun j => if j = i then x else f j := by
  apply List.ext_getElem
  · simp
  · intro j h1 h2
    simp only [List.getElem_set, List.getElem_map, List.getElem_range]
    by_cases h : i = j
    · subst h; simp
    · rw [if_neg h, if_neg (fun e => h e.symm)]
theorem map_range_congr {α : Type} {n : Nat} {f f' : Nat → α} (h : ∀ j, j < n → f j = f' j) : (List.range n).map f = (List.range n).map f' := List.map_congr_left fun j hj => h j (List.mem_range.1 hj)

/-- The first loop: the degrees of the first i nodes stand. -/
def RmA (w wr : World) (n : Nat) (adj : Nat → Nat → Bool) (i : Nat) : Prop :=
  wr.heap.size = w.heap.size + 2 ∧ Blk wr w.heap.size ((List.range n).map fun j => Value.int .i64 (if j < i then degIn n adj [] j else 0)) 3 ∧ Blk wr (w.heap.size + 1) ((List.range n).map fun _ => Value.bool false) 4 ∧ Below w.heap.size w wr
theorem RmA.start (w : World) (n : Nat) (adj : Nat → Nat → Bool) : RmA w ((w.alloc (.cells (madeCells #[.int .i64 0] n) 3)).alloc (.cells (madeCells #[.bool false] n) 4)) n adj 0 := by
  have e1 : madeCells #[.int .i64 0] n = ((List.range n).map fun j => Value.int .i64 (if j < 0 then degIn n adj [] j else 0)).toArray := by
    apply Array.toList_inj.1
    rw [made_list]
    simp
  have e2 : madeCells #[.bool false] n = ((List.range n).map fun _ => Value.bool false).toArray := by
    apply Array.toList_inj.1
    rw [made_list]
  rw [e1, e2]
  refine ⟨by simp, (Blk.new _ _).alloc _, ?_, ((Below.refl _ _).alloc (Nat.le_refl _) _).alloc (by simp) _⟩
  have := Blk.new (w := w.alloc (.cells ((List.range n).map fun j => Value.int .i64 (if j < 0 then degIn n adj [] j else 0)).toArray 3)) ((List.range n).map fun _ => Value.bool false) 4
  rw [World.size_alloc] at this
  exact this
theorem RmA.step {w wr : World} {n : Nat} {adj : Nat → Nat → Bool} {i : Nat} (h : RmA w wr n adj i) (d : Int) (hd : d = degIn n adj [] i) : RmA w (wr.setCell ⟨w.heap.size, i, none⟩ (.int .i64 d)) n adj (i + 1) := by
  subst hd
  obtain ⟨h1, h2, h3, h4⟩ := h
  refine ⟨by simp [h1], ?_, h3.far (by simp) _, h4.setCell (Nat.le_refl _) _⟩
  have := h2.set i (.int .i64 (degIn n adj [] i))
  rw [map_range_set] at this
  rw [map_range_congr (f' := fun j => Value.int .i64 (if j < i + 1 then degIn n adj [] j else 0))] at this
  · exact this
  · intro j hj
    by_cases e : j = i
    · subst e; simp
    · rw [if_neg e]
      by_cases e2 : j < i
      · rw [if_pos e2, if_pos (by omega)]
      · rw [if_neg e2, if_neg (by omega)]

/-- The second loop: these nodes have been removed. -/
def RmB (w wr : World) (n : Nat) (adj : Nat → Nat → Bool) (order : List Nat) (v : Value) : Prop :=
  w.heap.size + 2 ≤ wr.heap.size ∧ Blk wr w.heap.size ((List.range n).map fun j => Value.int .i64 (degIn n adj order j)) 3 ∧ Blk wr (w.heap.size + 1) ((List.range n).map fun j => Value.bool (goneIn order j)) 4 ∧
    Kd.R (Kd.int .i64) 3 wr (w.heap.size + 2) (fun _ => True) v (order.map fun x : Nat => (x : Int)) ∧ Below w.heap.size w wr
theorem RmB.start {w wr : World} {n : Nat} {adj : Nat → Nat → Bool} (h : RmA w wr n adj n) : RmB w wr n adj [] (.slice none 0 0) := by
  obtain ⟨h1, h2, h3, h4⟩ := h
  refine ⟨by omega, ?_, by simpa [goneIn] using h3, Kd.R_nil _ _ _ _ _, h4⟩
  rw [map_range_congr (f' := fun j => Value.int .i64 (degIn n adj [] j))] at h2
  · exact h2
  · intro j hj
    rw [if_pos hj]
theorem RmB.drew {w wr : World} {n : Nat} {adj : Nat → Nat → Bool} {order : List Nat} {v : Value} (h : RmB w wr n adj order v) : RmB w wr.drew n adj order v :=
  ⟨h.1, h.2.1, h.2.2.1, Kd.R_drew h.2.2.2.1, h.2.2.2.2.drew⟩

theorem RmB.drewN {w wr : World} {n : Nat} {adj : Nat → Nat → Bool} {order : List Nat} {v : Value} (h : RmB w wr n adj order v) (m : Nat) : RmB w (wr.drewN m) n adj order v :=
  ⟨h.1, h.2.1, h.2.2.1, Kd.R_drewN h.2.2.2.1 m, pw_below_drewN h.2.2.2.2 m⟩

theorem R_low {α : Type} {d : Kd α} {e base : Nat} {w : World} {ok : Nat → Prop} {v : Value} {xs : List α} (h : d.R e w base ok v xs) {p : Addr} (hp : p.block < base) (u : Value) : d.R e (w.setCell p u) base ok v xs :=
  Kd.R_mono (Kd.R_far (Kd.R_bound h) (fun k hk => by have := hk.2.1; omega) u) (fun _ hk => hk.1)
/-- Behind the removal of p: L: which neighbors are still to come. -/
def RmC (w wr : World) (n : Nat) (adj : Nat → Nat → Bool) (order : List Nat) (p : Nat) (v : Value) (g r cnt : Nat) (L : Int → Prop) : Prop :=
  w.heap.size + 2 ≤ wr.heap.size ∧ w.heap.size + 2 ≤ r ∧ (∃ f : Nat → Int, Blk wr w.heap.size ((List.range n).map fun j => Value.int .i64 (f j)) 3 ∧ ∀ i, i < n → (L i → f i = degIn n adj order i) ∧ (¬ L i → f i = degIn n adj (order ++ [p]) i)) ∧
    Blk wr (w.heap.size + 1) ((List.range n).map fun j => Value.bool (goneIn (order ++ [p]) j)) 4 ∧ Kd.R (Kd.int .i64) 3 wr (w.heap.size + 2) (fun k => k ≠ r) v ((order ++ [p]).map fun x : Nat => (x : Int)) ∧ Below w.heap.size w wr ∧
    Ranging wr r (g + 1 + p) L cnt ∧ ∀ k, L k → ∃ k' : Nat, k = k' ∧ k' < n ∧ adj p k' = true
theorem RmC.start {w wr : World} {n : Nat} {adj : Nat → Nat → Bool} {order : List Nat} {p : Nat} {v : Value} {g cnt : Nat} {o : Obj} (hp : p < n) (hq : p ∉ order) (hsym : ∀ a b, adj a b = adj b a)
    (h0 : w.heap.size + 2 ≤ wr.heap.size) (h1 : Blk wr w.heap.size ((List.range n).map fun j => Value.int .i64 (degIn n adj order j)) 3) (h2 : Blk wr (w.heap.size + 1) ((List.range n).map fun j => Value.bool (goneIn (order ++ [p]) j)) 4)
    (h3 : Kd.R (Kd.int .i64) 3 wr (w.heap.size + 2) (fun _ => True) v ((order ++ [p]).map fun x : Nat => (x : Int))) (h4 : Below w.heap.size w wr)
    (h5 : Ranging (wr.alloc o) wr.heap.size (g + 1 + p) (fun k => ∃ k' : Nat, k = k' ∧ k' < n ∧ adj p k' = true) cnt) :
    RmC w (wr.alloc o) n adj order p v g wr.heap.size cnt (fun k => ∃ k' : Nat, k = k' ∧ k' < n ∧ adj p k' = true) := by
  refine ⟨by simp; omega, h0, ⟨_, h1.alloc _, fun i hi => ⟨fun _ => rfl, fun hn => ?_⟩⟩, h2.alloc _, Kd.R_alloc (Kd.R_mono (Kd.R_bound h3) (fun k hk => by have := hk.2.2.1; omega)) _, h4.alloc (by omega) _, h5, fun _ h => h⟩
  rw [degIn_snoc n adj order p i hp hq, if_neg, Int.sub_zero]
  intro ha
  exact hn ⟨i, rfl, hi, by rw [hsym]; exact ha⟩
theorem RmC.step {w wr w2 : World} {n : Nat} {adj : Nat → Nat → Bool} {order : List Nat} {p : Nat} {v : Value} {g r cnt cnt2 : Nat} {L : Int → Prop} (h : RmC w wr n adj order p v g r cnt L) (hp : p < n) (hq : p ∉ order) (hsym : ∀ a b, adj a b = adj b a)
    (hg : g + n < w.heap.size) {k : Int} (hk : L k) (hs : Save r wr w2) (h2 : Ranging w2 r (g + 1 + p) (fun q => L q ∧ q ≠ k) cnt2) :
    ∃ k' : Nat, k = k' ∧ k' < n ∧ w2.cell? ⟨w.heap.size, k', none⟩ = some (.int .i64 (degIn n adj order k')) ∧ w2.frozen? ⟨w.heap.size, k', none⟩ = false ∧
      RmC w (w2.setCell ⟨w.heap.size, k', none⟩ (.int .i64 (degIn n adj order k' - 1))) n adj order p v g r cnt2 (fun q => L q ∧ q ≠ k) := by
  obtain ⟨a0, a1, ⟨f, a2, a3⟩, a4, a5, a6, a7, a8⟩ := h
  obtain ⟨k', rfl, hk', hadj⟩ := a8 k hk
  have b2 : Blk w2 w.heap.size ((List.range n).map fun j => Value.int .i64 (f j)) 3 := a2.move (hs.block _ (by omega))
  have hfk := (a3 k' hk').1 hk
  refine ⟨k', rfl, hk', ?_, b2.frozen k', by simp [hs.size]; omega, a1, ⟨fun j => if j = k' then degIn n adj order k' - 1 else f j, ?_, fun i hi => ⟨?_, ?_⟩⟩, (a4.move (hs.block _ (by omega))).far (by simp) _, R_low (Kd.R_step a5 (fun q hq _ => hs.block q hq)) (by simp) _, ?_, ?_, fun q hq => a8 q hq.1⟩
  · rw [b2.cell, List.getElem?_map, List.getElem?_range hk', Option.map_some, hfk]
  · have := b2.set k' (.int .i64 (degIn n adj order k' - 1))
    rw [map_range_set] at this
    rw [map_range_congr (f' := fun j => Value.int .i64 (if j = k' then degIn n adj order k' - 1 else f j))] at this
    · exact this
    · intro j _
      split <;> rfl
  · rintro ⟨h1, h2⟩
    dsimp only
    rw [if_neg (fun e => h2 (by rw [e]))]
    exact (a3 i hi).1 h1
  · intro h1
    by_cases e : i = k'
    · subst e
      dsimp only
      rw [if_pos rfl, degIn_snoc n adj order p i hp hq, if_pos (by rw [hsym]; exact hadj)]
    · dsimp only
      rw [if_neg e]
      exact (a3 i hi).2 (fun hL => h1 ⟨hL, fun e' => e (by omega)⟩)
  · exact (Save.below a6 hs (by omega)).setCell (Nat.le_refl _) _
  · have hb := a7.set
    obtain ⟨S, hS⟩ := hb
    have hlt := hS.lt
    refine h2.move (Below.heap_setCell _ _ _ _ (by simp; omega)) (Below.heap_setCell _ _ _ _ (by simp; omega))
theorem RmC.done {w wr : World} {n : Nat} {adj : Nat → Nat → Bool} {order : List Nat} {p : Nat} {v : Value} {g r cnt : Nat} {L : Int → Prop} (h : RmC w wr n adj order p v g r cnt L) (hL : ∀ k, ¬ L k) : RmB w wr n adj (order ++ [p]) v := by
  obtain ⟨a0, a1, ⟨f, a2, a3⟩, a4, a5, a6, a7, a8⟩ := h
  refine ⟨a0, ?_, a4, Kd.R_mono a5 (fun _ _ => trivial), a6⟩
  rw [map_range_congr (f' := fun j => Value.int .i64 (degIn n adj (order ++ [p]) j))] at a2
  · exact a2
  · intro j hj
    rw [(a3 j hj).2 (hL _)]
theorem degIn_bounds (n : Nat) (adj : Nat → Nat → Bool) (order : List Nat) (i : Nat) : 0 ≤ degIn n adj order i ∧ degIn n adj order i ≤ n := by
  unfold degIn deg
  have := List.length_filter_le (fun k => adj i k && !goneIn order k) (List.range n)
  rw [List.length_range] at this
  omega

set_option maxHeartbeats 2000000 in
set_option maxRecDepth 100000 in
theorem remove_calls (g n : Nat) (c : Int) (adj : Nat → Nat → Bool) (w : World) (hA : AdjB w g n (fun a b => adj a b = true)) (hg : g + n < w.heap.size) (hn : n ≤ 1000) (hsym : ∀ a b, adj a b = adj b a) :
    Calls Try.prog 86 #[.slice (some ⟨g, 0, none⟩) n n, .int .i64 c] w fun e w' => ∃ v, e = .returned v ∧ Kd.R (Kd.int .i64) 3 w' w.heap.size (fun _ => True) v ((removeTo n adj c n).map fun x : Nat => (x : Int)) ∧ Below w.heap.size w w' := by
  have HA := Aside0.mk hA
  have HS := Aside0.mk hsym
  clear hA hsym
  have hmk : ∀ W : World, (Instr.makeSlice 26 (.int .i64 (n : Int)) (.int .i64 (n : Int))).run Try.prog W = .ok (.slice (some ⟨W.heap.size, 0, none⟩) n n) (W.alloc (.cells (madeCells #[.int .i64 0] n) 3)) := fun W =>
    run_make_row' 26 3 (.int .i64 0) 8 Try.underlying26 info3 rfl .i64 .i64 n (by omega) (by omega) W
  have hmk2 : ∀ W : World, (Instr.makeSlice 137 (.int .i64 (n : Int)) (.int .i64 (n : Int))).run Try.prog W = .ok (.slice (some ⟨W.heap.size, 0, none⟩) n n) (W.alloc (.cells (madeCells #[.bool false] n) 4)) := fun W =>
    run_make_row' 137 4 (.bool false) 1 Try.underlying137 info4 rfl .i64 .i64 n (by omega) (by omega) W
  go_enter Try.func86, Try.ntmps86
  go_wp2_with fail
  go_loopg [21] n (fun k v wr => ∃ i : Nat, v = .int .i64 i ∧ Aside0 (i + k = n) ∧ RmA w wr n adj i)
  case atStart => exact ⟨0, rfl, ⟨by omega⟩, RmA.start w n adj⟩
  case round =>
    obtain ⟨i, rfl, HK, HB⟩ := hrel
    by_cases hlt : i < n
    · have hA1 : AdjB wr g n (fun a b => adj a b = true) := HA.out.below HB.2.2.2 hg
      have hcm : wr.cell? ⟨g, i, none⟩ = some (.map (some (g + 1 + i))) := by
        rw [hA1.1.cell]
        simp [hlt]
      have hlen : ∀ ty, (Builtin.len_ #[29] ty #[.map (some (g + 1 + i))]).run Try.prog wr = .ok (.int .i64 (((List.range n).filter (adj i)).length : Nat)) wr := fun ty => SetB.len (hA1.2 i hlt) 29 3 4 Try.underlying29 ty
      have hc : ∃ u, wr.cell? ⟨w.heap.size, i, none⟩ = some u := ⟨_, by rw [HB.2.1.cell, List.getElem?_map, List.getElem?_range hlt]; rfl⟩
      obtain ⟨u, hc⟩ := hc
      have hf : wr.frozen? ⟨w.heap.size, i, none⟩ = false := HB.2.1.frozen i
      have hst := Aside0.mk (HB.step _ (degIn_nil n adj i).symm)
      clear hA1
      go_wp2_with fail
      go_roundg (gk - 1)
      case measure => have := HK.out; omega
      case rel => exact ⟨i + 1, by go_num, ⟨by have := HK.out; omega⟩, hst.out⟩
    · have hin : i = n := by have := HK.out; omega
      have HB2 : RmB w wr n adj [] (.slice none 0 0) := RmB.start (hin ▸ HB)
      clear hin HB hmk hmk2 HK
      go_wp2_with fail
      go_loopg [9, 34] n (fun k v i wr => ∃ t : Nat, i = .int .i64 t ∧ Aside0 (t + k = n) ∧ RmB w wr n adj (removeTo n adj c t) v)
      case atStart => exact ⟨0, rfl, ⟨by omega⟩, HB2⟩
      case round =>
        obtain ⟨t, rfl, HK, HB⟩ := hrel
        by_cases hlt : t < n
        · obtain ⟨order, ho⟩ : ∃ order, order = removeTo n adj c t := ⟨_, rfl⟩
          rw [← ho] at HB
          have HO := Aside0.mk ho
          clear ho
          obtain ⟨go, rfl⟩ : ∃ g : Nat, g = gk := ⟨_, rfl⟩
          obtain ⟨wo, rfl⟩ : ∃ g : World, g = wr := ⟨_, rfl⟩
          go_wp2_with fail
          go_loopg [10, 38] n (fun k p i wr => ∃ j : Nat, i = .int .i64 j ∧ Aside0 (j + k = n) ∧ p = .int .i64 (pickTo (degIn n adj order) (goneIn order) c j) ∧ RmB w wr n adj order u9)
          case atStart => exact ⟨0, rfl, ⟨by omega⟩, rfl, HB⟩
          case round =>
            obtain ⟨j, rfl, HJ, rfl, HB⟩ := hrel
            by_cases hj : j < n
            · have hcd : wr.cell? ⟨w.heap.size, j, none⟩ = some (.int .i64 (degIn n adj order j)) := by
                rw [HB.2.1.cell, List.getElem?_map, List.getElem?_range hj]; rfl
              have hs := pickTo_succ (degIn n adj order) (goneIn order) c j
              have hr := pickTo_range (degIn n adj order) (goneIn order) c j
              obtain ⟨p, hp⟩ : ∃ p, p = pickTo (degIn n adj order) (goneIn order) c j := ⟨_, rfl⟩
              obtain ⟨dj, hdj⟩ : ∃ d, d = degIn n adj order j := ⟨_, rfl⟩
              rw [← hp] at hs hr ⊢
              rw [← hdj] at hcd
              clear hp
              by_cases hgone : goneIn order j = true
              · have hcg : wr.cell? ⟨w.heap.size + 1, j, none⟩ = some (.bool true) := by
                  rw [HB.2.2.1.cell, List.getElem?_map, List.getElem?_range hj, Option.map_some, hgone]
                have HN := Aside0.mk (show pickTo (degIn n adj order) (goneIn order) c (j + 1) = p by rw [hs]; simp [pickStep, hgone])
                clear hs hr hgone hcd hdj
                go_wp2_with fail
                go_roundg (gk - 1)
                case measure => have := HJ.out; omega
                case rel => exact ⟨j + 1, by go_num, ⟨by have := HJ.out; omega⟩, by rw [HN.out], HB⟩
              · have hgone : goneIn order j = false := by simpa using hgone
                have hcg : wr.cell? ⟨w.heap.size + 1, j, none⟩ = some (.bool false) := by
                  rw [HB.2.2.1.cell, List.getElem?_map, List.getElem?_range hj, Option.map_some, hgone]
                by_cases hp0 : p < 0
                · have HN := Aside0.mk (show pickTo (degIn n adj order) (goneIn order) c (j + 1) = (j : Int) by rw [hs]; simp [pickStep, hgone, hp0])
                  clear hs hr hgone hdj
                  by_cases hd : dj < c
                  · go_wp2_with fail
                    go_roundg (gk - 1)
                    case measure => have := HJ.out; omega
                    case rel => exact ⟨j + 1, by go_num, ⟨by have := HJ.out; omega⟩, by rw [HN.out], HB⟩
                  · go_wp2_with fail
                    go_quiet (fail)
                    go_wp2_with fail
                    go_roundg (gk - 1)
                    case measure => have := HJ.out; omega
                    case rel => exact ⟨j + 1, by go_num, ⟨by have := HJ.out; omega⟩, by rw [HN.out], HB.drewN _⟩
                · rcases hr with hr | ⟨hr1, hr2, _⟩
                  · omega
                  · obtain ⟨q, rfl⟩ := Int.eq_ofNat_of_zero_le hr1
                    have hq : q < n := by omega
                    have hcp : wr.cell? ⟨w.heap.size, q, none⟩ = some (.int .i64 (degIn n adj order q)) := by
                      rw [HB.2.1.cell, List.getElem?_map, List.getElem?_range hq]; rfl
                    obtain ⟨dp, hdp⟩ : ∃ d, d = degIn n adj order q := ⟨_, rfl⟩
                    rw [← hdp] at hcp
                    have hq0 : decide ((q : Int) < 0) = false := by simp
                    by_cases hd : dj < c
                    · by_cases hpc : dp < c
                      · have HN := Aside0.mk (show pickTo (degIn n adj order) (goneIn order) c (j + 1) = (q : Int) by rw [hs, pickStep_at hgone, ← hdj, ← hdp]; simp [hd]; omega)
                        clear hs hgone hdj hdp
                        go_wp2_with fail
                        go_roundg (gk - 1)
                        case measure => have := HJ.out; omega
                        case rel => exact ⟨j + 1, by go_num, ⟨by have := HJ.out; omega⟩, by rw [HN.out], HB⟩
                      · have HN := Aside0.mk (show pickTo (degIn n adj order) (goneIn order) c (j + 1) = (j : Int) by rw [hs, pickStep_at hgone, ← hdj, ← hdp]; simp [hd]; omega)
                        clear hs hgone hdj hdp
                        go_wp2_with fail
                        go_roundg (gk - 1)
                        case measure => have := HJ.out; omega
                        case rel => exact ⟨j + 1, by go_num, ⟨by have := HJ.out; omega⟩, by rw [HN.out], HB⟩
                    · by_cases hpc : dp < c
                      · have HN := Aside0.mk (show pickTo (degIn n adj order) (goneIn order) c (j + 1) = (q : Int) by rw [hs, pickStep_at hgone, ← hdj, ← hdp]; simp [hd]; omega)
                        have hd1 : decide (c ≤ dp) = false := by simpa using hpc
                        clear hs hgone hdj hdp
                        go_wp2_with fail
                        go_quiet (fail)
                        go_wp2_with fail
                        go_roundg (gk - 1)
                        case measure => have := HJ.out; omega
                        case rel => exact ⟨j + 1, by go_num, ⟨by have := HJ.out; omega⟩, by rw [HN.out], HB.drewN _⟩
                      · have hd1 : decide (c ≤ dp) = true := by simpa using hpc
                        by_cases hgt : dp < dj
                        · have HN := Aside0.mk (show pickTo (degIn n adj order) (goneIn order) c (j + 1) = (j : Int) by rw [hs, pickStep_at hgone, ← hdj, ← hdp]; simp [hd]; omega)
                          have hd2 : decide (dp < dj) = true := by simpa using hgt
                          clear hs hgone hdj hdp
                          go_wp2_with fail
                          go_quiet (fail)
                          go_wp2_with fail
                          go_roundg (gk - 1)
                          case measure => have := HJ.out; omega
                          case rel => exact ⟨j + 1, by go_num, ⟨by have := HJ.out; omega⟩, by rw [HN.out], HB.drewN _⟩
                        · have HN := Aside0.mk (show pickTo (degIn n adj order) (goneIn order) c (j + 1) = (q : Int) by rw [hs, pickStep_at hgone, ← hdj, ← hdp]; simp [hd]; omega)
                          have hd2 : decide (dp < dj) = false := by simpa using hgt
                          clear hs hgone hdj hdp
                          go_wp2_with fail
                          go_quiet (fail)
                          go_wp2_with fail
                          go_roundg (gk - 1)
                          case measure => have := HJ.out; omega
                          case rel => exact ⟨j + 1, by go_num, ⟨by have := HJ.out; omega⟩, by rw [HN.out], HB.drewN _⟩
            · have hjn : j = n := by have := HJ.out; omega
              subst hjn
              obtain ⟨pl1, pl2, pl3⟩ := pick_lt (n := j) (adj := adj) (c := c) hlt
              obtain ⟨pk, hpk⟩ : ∃ pk : Nat, pk = pick j adj c (removeTo j adj c t) := ⟨_, rfl⟩
              have hpv : pickTo (degIn j adj order) (goneIn order) c j = (pk : Int) := by
                rw [hpk, HO.out]
                unfold pick
                omega
              rw [← hpk, ← HO.out] at pl3
              rw [← hpk] at pl2
              rw [hpv]
              have HPK := Aside0.mk hpk
              have HP3 := Aside0.mk pl3
              clear hpk hpv pl1 pl3
              have hcg : ∃ u, wr.cell? ⟨w.heap.size + 1, pk, none⟩ = some u := ⟨_, by rw [HB.2.2.1.cell, List.getElem?_map, List.getElem?_range pl2]; rfl⟩
              obtain ⟨u, hcg⟩ := hcg
              have hcf : wr.frozen? ⟨w.heap.size + 1, pk, none⟩ = false := HB.2.2.1.frozen pk
              go_wp2_with (at_builtin; go_must (refine Kd.R_append (Kd.int .i64) (w0 := wr.setCell ⟨w.heap.size + 1, pk, none⟩ (.bool true)) (w.heap.size + 2) rfl (.tmp 91) (.tmp 93) 26 3 (.int .i64 0) 8 rfl Try.underlying26 info3 rfl (by decide) (by omega) u9 (order.map fun x : Nat => (x : Int)) pk [.int .i64 pk] (fun _ => True) (fun _ => False) rfl (by go_simp) rfl (fun _ hk => hk.elim) (fun _ _ => trivial) (R_low HB.2.2.2.1 (by simp) _) (Below.refl _ _) (by have := HB.1; simp; omega) (by rw [List.length_map, HO.out, length_removeTo]; omega) ?_))
              intro v1 w1 ho hb hgr hat
              clear hat
              have HG1 := Aside0.mk hgr
              have b0 : w.heap.size + 2 ≤ w1.heap.size := by have h1 := hb.size; have h2 := HB.1; simp at h1; omega
              have b1 : Blk w1 w.heap.size ((List.range j).map fun q => Value.int .i64 (degIn j adj order q)) 3 := (HB.2.1.far (p := ⟨w.heap.size + 1, pk, none⟩) (by simp) (.bool true)).below hb (by omega)
              have b2 : Blk w1 (w.heap.size + 1) ((List.range j).map fun q => Value.bool (goneIn (order ++ [pk]) q)) 4 := by
                have := (HB.2.2.1.set pk (.bool true)).below hb (by omega)
                rw [map_range_set] at this
                rw [map_range_congr (f' := fun q => Value.bool (goneIn (order ++ [pk]) q))] at this
                · exact this
                · intro q _
                  by_cases e : q = pk
                  · subst e; simp [goneIn]
                  · rw [if_neg e]; simp [goneIn, e]
              have b3 : Kd.R (Kd.int .i64) 3 w1 (w.heap.size + 2) (fun _ => True) v1 ((order ++ [pk]).map fun x : Nat => (x : Int)) := by simpa using ho
              have b4 : Below w.heap.size w w1 := (HB.2.2.2.2.setCell (p := ⟨w.heap.size + 1, pk, none⟩) (by simp) (.bool true)).trans (hb.mono (by omega))
              have hA1 : AdjB w1 g j (fun a b => adj a b = true) := HA.out.below b4 hg
              have hcm : w1.cell? ⟨g, pk, none⟩ = some (.map (some (g + 1 + pk))) := by
                rw [hA1.1.cell]
                simp [pl2]
              obtain ⟨o, cnt, hrun, hrg⟩ := (hA1.2 pk pl2).range 29 3 4 (P := Try.prog) Try.underlying29
              have HC := RmC.start pl2 HP3.out HS.out b0 b1 b2 b3 b4 hrg
              have HP2 := Aside0.mk pl2
              clear hgr hb ho b1 b2 b3 hA1 hrg hcg hcf HB
              go_wp2_with fail
              go_loopg [12] cnt (fun k v wr => ∃ (L : Int → Prop) (cnt' : Nat), cnt' ≤ k ∧ RmC w wr j adj order pk v1 g w1.heap.size cnt' L)
              case atStart => exact ⟨_, _, Nat.le_refl _, HC⟩
              case round =>
                obtain ⟨L, cnt', hck, HC⟩ := hrel
                have hck := Aside0.mk hck
                rcases HC.2.2.2.2.2.2.1.next (P := Try.prog) with ⟨h1, h2, h3⟩ | ⟨k, w2, cnt2, h1, h2, h3, h4, h5, h6⟩
                · have HD := HC.done h2
                  clear HC h1 h2
                  go_wp2_with fail
                  go_roundg (go - 1)
                  case measure => have := HK.out; omega
                  case rel => exact ⟨t + 1, by go_num, ⟨by have := HK.out; omega⟩, by rw [removeTo, ← HPK.out, ← HO.out]; exact HD⟩
                · obtain ⟨k', rfl, hk', hcd, hfd, HC2⟩ := HC.step HP2.out HP3.out HS.out hg h1 h6 h4
                  obtain ⟨dk, hdk⟩ : ∃ d, d = degIn j adj order k' := ⟨_, rfl⟩
                  have hd0 := degIn_bounds j adj order k'
                  rw [← hdk] at hcd HC2 hd0
                  have H5 := Aside0.mk h5
                  clear HC h1 h4 h5 h6 hdk
                  go_wp2_with fail
                  go_roundg cnt2
                  case measure => have h1 := H5.out; have h2 := hck.out; omega
                  case rel => exact ⟨_, _, Nat.le_refl _, HC2⟩
        · have htn : t = n := by have := HK.out; omega
          subst htn
          have HF := Aside0.mk HB
          clear HB
          go_wp2_with fail
          go_ret
          exact ⟨u9, rfl, Kd.R_lower HF.out.2.2.2.1 (by omega), HF.out.2.2.2.2⟩
end Go.Proofs.Ytljacnpadelilaa
