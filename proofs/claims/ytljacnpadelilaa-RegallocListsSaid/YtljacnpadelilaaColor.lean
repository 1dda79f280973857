/- regalloc.Color returns the colors that the plain function colorL tells. Condition: at most 1000 nodes. -/
import Derived.Test.YtljacnpadelilaaRemove
namespace Go.Proofs.Ytljacnpadelilaa
open Go.RowKit Go.Proofs.YtljacnpadelilaaW.PrintWords Go.Proofs.YtljacnpadelilaaW.PrintLast Go.Proofs.YtljacnpadelilaaW.PrintMore
open Go.ChangeMaps (setBlock)
open Col
theorem wrap64_in {x : Int} (h0 : -9223372036854775808 ≤ x) (h1 : x ≤ 9223372036854775807) : wrap64 x = x := by
  unfold wrap64
  omega
theorem rd_set (xs : List Int) (i p : Nat) (x : Int) : (xs.set i x).getD p 0 = if i = p ∧ p < xs.length then x else xs.getD p 0 := by
  simp only [List.getD_eq_getElem?_getD, List.getElem?_set]
  by_cases h : i = p
  · subst h
    by_cases h2 : i < xs.length
    · simp [h2]
    · simp [h2]
  · simp [h]
theorem rev_l0 (d : Nat) : ∀ (k : Nat) (xs : List Int) (i : Nat) (j : Int), j < xs.length → xs.length ≤ 9223372036854775000 → (j - i).toNat ≤ d → d < k →
    ∃ r, PRegallocColors.slices_Reverse_int_int.l0 k xs i j = some r ∧ r.length = xs.length ∧ ∀ p : Nat, r.getD p 0 = if (i : Int) ≤ p ∧ (p : Int) ≤ j then xs.getD (i + j - p).toNat 0 else xs.getD p 0 := by
  induction d with
  | zero =>
    intro k xs i j hj hm hd hk
    obtain ⟨k, rfl⟩ : ∃ m, k = m + 1 := ⟨k - 1, by omega⟩
    refine ⟨xs, ?_, rfl, fun p => ?_⟩
    · simp only [PRegallocColors.slices_Reverse_int_int.l0]
      rw [if_neg (by omega)]
    · split
      · rename_i h
        have : (i + j - p).toNat = p := by omega
        rw [this]
      · rfl
  | succ d ih =>
    intro k xs i j hj hm hd hk
    obtain ⟨k, rfl⟩ : ∃ m, k = m + 1 := ⟨k - 1, by omega⟩
    by_cases hij : (i : Int) < j
    · obtain ⟨q, rfl⟩ := Int.eq_ofNat_of_zero_le (show 0 ≤ j by omega)
      obtain ⟨r, h1, h2, h3⟩ := ih k ((xs.set i (rd xs q)).set q (rd xs i)) (i + 1) (q - 1) (by simp; omega) (by simpa using hm) (by omega) (by omega)
      refine ⟨r, ?_, by simpa using h2, fun p => ?_⟩
      · simp only [PRegallocColors.slices_Reverse_int_int.l0]
        rw [if_pos hij, if_pos (by omega), if_pos hj, if_pos (by omega), if_pos (by omega), wrap64_in (by omega) (by omega), wrap64_in (by omega) (by omega)]
        exact h1
      · rw [h3]
        simp only [rd_set, List.length_set, rd]
        have e1 : ((q : Int)).toNat = q := by omega
        have e2 : ((i : Int)).toNat = i := by omega
        rw [e1, e2]
        repeat' split
        all_goals first
          | omega
          | (congr 1; omega)
          | rfl
    · refine ⟨xs, ?_, rfl, fun p => ?_⟩
      · simp only [PRegallocColors.slices_Reverse_int_int.l0]
        rw [if_neg hij]
      · split
        · rename_i h
          have : (i + j - p).toNat = p := by omega
          rw [this]
        · rfl
theorem reverse_f (xs : List Int) (hm : xs.length ≤ 9223372036854775000) : ∃ k, PRegallocColors.slices_Reverse_int_int.f k xs = some xs.reverse := by
  obtain ⟨r, h1, h2, h3⟩ := rev_l0 xs.length (xs.length + 1) xs 0 (xs.length - 1) (by omega) hm (by omega) (by omega)
  refine ⟨xs.length + 1, ?_⟩
  unfold PRegallocColors.slices_Reverse_int_int.f
  rw [wrap64_in (by omega) (by omega)]
  have : r = xs.reverse := by
    apply List.ext_getElem (by simp [h2])
    intro p hp1 hp2
    have h := h3 p
    rw [if_pos (by omega)] at h
    have e : ((0 : Nat) + ((xs.length : Int) - 1) - p).toNat = xs.length - 1 - p := by omega
    rw [e] at h
    simp only [List.getD_eq_getElem?_getD] at h
    rw [List.getElem?_eq_getElem hp1, List.getElem?_eq_getElem (show xs.length - 1 - p < xs.length by omega)] at h
    simp only [Option.getD_some] at h
    rw [h, List.getElem_reverse]
  rw [← this]
  exact h1

def adjb (l : List (List Int)) (a b : Nat) : Bool := a != b && ((l.getD a []).contains (b : Int) || (l.getD b []).contains (a : Int))
theorem adjb_iff (l : List (List Int)) (a b : Nat) : adjb l a b = true ↔ adjOf l a b := by
  unfold adjb adjOf
  simp
theorem adjb_sym (l : List (List Int)) (a b : Nat) : adjb l a b = adjb l b a := by
  rw [Bool.eq_iff_iff, adjb_iff, adjb_iff]
  constructor
  · rintro ⟨h1, h2⟩
    exact ⟨Ne.symm h1, h2.symm⟩
  · rintro ⟨h1, h2⟩
    exact ⟨Ne.symm h1, h2.symm⟩
theorem AdjB.dec {w : World} {g n : Nat} {l : List (List Int)} (h : AdjB w g n (adjOf l)) : AdjB w g n (fun a b => adjb l a b = true) :=
  ⟨h.1, fun j hj => (h.2 j hj).congr fun k => by simp only [adjb_iff]⟩
theorem AdjB.lt {w : World} {g n : Nat} {adj : Nat → Nat → Prop} (h : AdjB w g n adj) : g + n < w.heap.size := by
  cases n with
  | zero => exact h.1.lt
  | succ n =>
    have := (h.2 n (Nat.lt_succ_self n)).lt
    omega

theorem grown_refl (w : World) (row : Option Nat) : w.grownBy w row := ⟨rfl, rfl, rfl, Nat.le_refl _, fun _ _ _ => rfl⟩
theorem grown_set {w w1 : World} {O : Nat} (h : w.grownBy w1 (some O)) (i : Nat) (v : Value) : w.grownBy (w1.setCell ⟨O, i, none⟩ v) (some O) :=
  ⟨h.os, h.tape, h.output, by simpa using h.size, fun q hq hn => (Below.heap_setCell _ _ _ _ (fun e => hn (by rw [e]))).trans (h.block q hq hn)⟩
theorem grown_alloc {w w1 : World} {row : Option Nat} (h : w.grownBy w1 row) (o : Obj) : w.grownBy (w1.alloc o) row :=
  ⟨h.os, h.tape, h.output, by have := h.size; simp; omega, fun q hq hn => (Below.heap_alloc _ _ _ (by have := h.size; omega)).trans (h.block q hq hn)⟩
theorem grown_save {w w1 w2 : World} {row : Option Nat} (h : w.grownBy w1 row) {r : Nat} (hs : Save r w1 w2) (hr : w.heap.size ≤ r) : w.grownBy w2 row :=
  ⟨hs.os.trans h.os, hs.tape.trans h.tape, hs.output.trans h.output, by rw [hs.size]; exact h.size, fun q hq hn => (hs.block q (by omega)).trans (h.block q hq hn)⟩
theorem AdjB.grown {w w1 : World} {g n O : Nat} {adj : Nat → Nat → Prop} (h : AdjB w g n adj) (hg : w.grownBy w1 (some O)) (hO : g + n < O) : AdjB w1 g n adj :=
  ⟨h.1.move (hg.block _ h.1.lt (by simp; omega)), fun j hj => (h.2 j hj).move (hg.block _ (h.2 j hj).lt (by simp; omega))⟩

/-- The colors that stand, all others as they were. -/
def CoB (w5 wr : World) (O : Nat) (out : List Int) : Prop := w5.grownBy wr (some O) ∧ Blk wr O (nums .i64 out) 3
theorem CoB.cell {w5 wr : World} {O : Nat} {out : List Int} (h : CoB w5 wr O out) {i : Nat} (hi : i < out.length) : wr.cell? ⟨O, i, none⟩ = some (.int .i64 (out.getD i (-1))) := by
  rw [h.2.cell]
  simp [nums, List.getD_eq_getElem?_getD, hi]
theorem CoB.set {w5 wr : World} {O : Nat} {out : List Int} (h : CoB w5 wr O out) (i : Nat) (x : Int) : CoB w5 (wr.setCell ⟨O, i, none⟩ (.int .i64 x)) O (out.set i x) := by
  refine ⟨grown_set h.1 _ _, ?_⟩
  have := h.2.set i (.int .i64 x)
  rwa [show (nums .i64 out).set i (.int .i64 x) = nums .i64 (out.set i x) by simp [nums, List.map_set]] at this
/-- The first loop: -1 in the first i places. -/
def CoA (w1 wr : World) (n i : Nat) : Prop := wr.heap.size = w1.heap.size + 1 ∧ Blk wr w1.heap.size ((List.range n).map fun j => Value.int .i64 (if j < i then -1 else 0)) 3 ∧ Below w1.heap.size w1 wr
theorem CoA.start (w : World) (n : Nat) : CoA w (w.alloc (.cells (madeCells #[.int .i64 0] n) 3)) n 0 := by
  have e1 : madeCells #[.int .i64 0] n = ((List.range n).map fun j => Value.int .i64 (if j < 0 then -1 else 0)).toArray := by
    apply Array.toList_inj.1
    rw [made_list]
    simp
  rw [e1]
  exact ⟨by simp, Blk.new _ _, (Below.refl _ _).alloc (Nat.le_refl _) _⟩
theorem CoA.step {w wr : World} {n i : Nat} (h : CoA w wr n i) : CoA w (wr.setCell ⟨w.heap.size, i, none⟩ (.int .i64 (-1))) n (i + 1) := by
  refine ⟨by simpa using h.1, ?_, h.2.2.setCell (Nat.le_refl _) _⟩
  have := h.2.1.set i (.int .i64 (-1))
  rw [map_range_set] at this
  rw [map_range_congr (f' := fun j => Value.int .i64 (if j < i + 1 then -1 else 0))] at this
  · exact this
  · intro j hj
    by_cases e : j = i
    · subst e; simp
    · rw [if_neg e]
      by_cases e2 : j < i
      · rw [if_pos e2, if_pos (by omega)]
      · rw [if_neg e2, if_neg (by omega)]
theorem CoA.done {w wr : World} {n : Nat} (h : CoA w wr n n) : Blk wr w.heap.size (nums .i64 (List.replicate n (-1))) 3 := by
  have := h.2.1
  rw [show ((List.range n).map fun j => Value.int .i64 (if j < n then -1 else 0)) = nums .i64 (List.replicate n (-1)) by
    apply List.ext_getElem
    · simp [nums]
    · intro i h1 h2
      simp at h1
      simp [nums, h1]] at this
  exact this

/-- In the round over the neighbors of q: is one of those that have been seen of color c? -/
def CoR (w5 wr : World) (O : Nat) (out : List Int) (n : Nat) (adj : Nat → Nat → Bool) (q c r b cnt : Nat) (L : Int → Prop) (tk : Bool) : Prop :=
  CoB w5 wr O out ∧ Ranging wr r b L cnt ∧ w5.heap.size ≤ r ∧ (∀ k, L k → ∃ k' : Nat, k = k' ∧ k' < n ∧ adj q k' = true) ∧ (tk = true ↔ ∃ k' : Nat, k' < n ∧ adj q k' = true ∧ ¬ L k' ∧ out.getD k' (-1) = (c : Int))
theorem CoR.start {w5 wr : World} {O : Nat} {out : List Int} {n : Nat} {adj : Nat → Nat → Bool} {q c b cnt : Nat} {o : Obj} (h : CoB w5 wr O out) (hr : Ranging (wr.alloc o) wr.heap.size b (fun k => ∃ k' : Nat, k = k' ∧ k' < n ∧ adj q k' = true) cnt) :
    CoR w5 (wr.alloc o) O out n adj q c wr.heap.size b cnt (fun k => ∃ k' : Nat, k = k' ∧ k' < n ∧ adj q k' = true) false := by
  refine ⟨⟨grown_alloc h.1 o, h.2.alloc o⟩, hr, h.1.size, fun _ hk => hk, ?_⟩
  constructor
  · intro h; cases h
  · rintro ⟨k', h1, h2, h3, _⟩
    exact absurd ⟨k', rfl, h1, h2⟩ h3
theorem CoR.step {w5 wr w2 : World} {O : Nat} {out : List Int} {n : Nat} {adj : Nat → Nat → Bool} {q c r b cnt cnt2 : Nat} {L : Int → Prop} {tk : Bool} (h : CoR w5 wr O out n adj q c r b cnt L tk) (hO : O < w5.heap.size) {k : Int} (hk : L k) (hs : Save r wr w2) (h2 : Ranging w2 r b (fun q => L q ∧ q ≠ k) cnt2) :
    ∃ k' : Nat, k = k' ∧ k' < n ∧ CoR w5 w2 O out n adj q c r b cnt2 (fun q => L q ∧ q ≠ k) (tk || (out.getD k' (-1) == (c : Int))) := by
  obtain ⟨a1, a2, a3, a4, a5⟩ := h
  obtain ⟨k', rfl, hk', hadj⟩ := a4 k hk
  refine ⟨k', rfl, hk', ⟨grown_save a1.1 hs a3, a1.2.move (hs.block _ (by omega))⟩, h2, a3, fun q hq => a4 q hq.1, ?_⟩
  rw [Bool.or_eq_true, a5, beq_iff_eq]
  constructor
  · rintro (⟨p, h1, h2, h3, h4⟩ | h)
    · exact ⟨p, h1, h2, fun h => h3 h.1, h4⟩
    · exact ⟨k', hk', hadj, fun h => h.2 rfl, h⟩
  · rintro ⟨p, h1, h2, h3, h4⟩
    by_cases e : p = k'
    · subst e; exact .inr h4
    · exact .inl ⟨p, h1, h2, fun hL => h3 ⟨hL, fun e' => e (by omega)⟩, h4⟩
theorem CoR.done {w5 wr : World} {O : Nat} {out : List Int} {n : Nat} {adj : Nat → Nat → Bool} {q c r b cnt : Nat} {L : Int → Prop} {tk : Bool} (h : CoR w5 wr O out n adj q c r b cnt L tk) (hL : ∀ k, ¬ L k) : tk = taken n adj out q c := by
  obtain ⟨a1, a2, a3, a4, a5⟩ := h
  rw [Bool.eq_iff_iff, a5]
  unfold taken
  rw [List.any_eq_true]
  constructor
  · rintro ⟨k', h1, h2, _, h4⟩
    exact ⟨k', List.mem_range.2 h1, by rw [h2, h4]; simp⟩
  · rintro ⟨k', h1, h2⟩
    rw [Bool.and_eq_true, beq_iff_eq] at h2
    exact ⟨k', List.mem_range.1 h1, h2.1, hL _, h2.2⟩

set_option maxHeartbeats 2000000 in
set_option maxRecDepth 100000 in
theorem color_calls (A0 : Option Addr) (c0 : Nat) (l0 : List (List Int)) (colors : Int) (w : World) (hr0 : Kd.C (Kd.slice 3 (Kd.int .i64)) w A0 l0.length l0) (hc0 : l0.length ≤ c0) (hl : l0.length ≤ 1000) (hcol : colors ≤ 1000000) :
    Calls Try.prog 27 #[.slice A0 l0.length c0, .int .i64 colors] w fun e w' => ∃ v, e = .returned v ∧ Kd.R (Kd.int .i64) 3 w' w.heap.size (fun _ => True) v (colorL l0.length (adjb l0) colors) ∧ Below w.heap.size w w' := by
  obtain ⟨cs, hcs⟩ : ∃ cs : Nat, (cs : Int) = max colors 0 := ⟨(max colors 0).toNat, by omega⟩
  have hmax : ∀ (W : World) ty, (Builtin.max_ #[3, 3] ty #[.int .i64 colors, .int .i64 0]).run Try.prog W = .ok (.int .i64 (cs : Int)) W := by
    intro W ty
    rw [max_two, max2_int, hcs]
    have : (if colors < 0 then (0 : Int) else colors) = max colors 0 := by split <;> omega
    rw [this]
    rfl
  have hcs1 : (cs : Int) ≤ 1000000 := by omega
  have HCS := Aside0.mk hcs
  clear hcs
  obtain ⟨n, hn⟩ : ∃ n, n = l0.length := ⟨_, rfl⟩
  have HN := Aside0.mk hn
  have HNB := Aside0.mk (neighbors_calls A0 c0 l0 w hr0 hc0 hl)
  rw [← hn] at hl HNB ⊢
  clear hn hr0 hc0
  have hmk : ∀ W : World, (Instr.makeSlice 26 (.int .i64 (n : Int)) (.int .i64 (n : Int))).run Try.prog W = .ok (.slice (some ⟨W.heap.size, 0, none⟩) n n) (W.alloc (.cells (madeCells #[.int .i64 0] n) 3)) := fun W =>
    run_make_row' 26 3 (.int .i64 0) 8 Try.underlying26 info3 rfl .i64 .i64 n (by omega) (by omega) W
  go_enter Try.func27, Try.ntmps27
  go_wp2_with fail
  refine HNB.out.mono ?_
  rintro e w1 ⟨rfl, hA, hB1⟩
  have hA1 := hA.dec
  have HA1 := Aside0.mk hA1
  have hg1 : w.heap.size + n < w1.heap.size := hA.lt
  clear hA hA1
  have HB1 := Aside0.mk hB1
  clear hB1
  go_wp2_with fail
  go_loopg [23] n (fun k v wr => ∃ i : Nat, v = .int .i64 i ∧ Aside0 (i + k = n) ∧ CoA w1 wr n i)
  case atStart => exact ⟨0, rfl, ⟨by omega⟩, CoA.start w1 n⟩
  case round =>
    obtain ⟨i, rfl, HK, HC⟩ := hrel
    by_cases hlt : i < n
    · have hc : ∃ u, wr.cell? ⟨w1.heap.size, i, none⟩ = some u := ⟨_, by rw [HC.2.1.cell, List.getElem?_map, List.getElem?_range hlt]; rfl⟩
      obtain ⟨u, hc⟩ := hc
      have hf : wr.frozen? ⟨w1.heap.size, i, none⟩ = false := HC.2.1.frozen i
      have hst := Aside0.mk HC.step
      go_wp2_with fail
      go_roundg (gk - 1)
      case measure => have := HK.out; omega
      case rel => exact ⟨i + 1, by go_num, ⟨by have := HK.out; omega⟩, hst.out⟩
    · have hin : i = n := by have := HK.out; omega
      subst hin
      have HD := Aside0.mk HC.done
      have hsz3 : wr.heap.size = w1.heap.size + 1 := HC.1
      have HS3 := Aside0.mk hsz3
      have HB3 := Aside0.mk HC.2.2
      have HRM := Aside0.mk (remove_calls w.heap.size i cs (adjb l0) wr (HA1.out.below HC.2.2 hg1) (by omega) hl (adjb_sym l0))
      clear hmk hmax HC hsz3 HK
      go_wp2_with fail
      refine HRM.out.mono ?_
      rintro e w4 ⟨v, rfl, hR, hB4⟩
      obtain ⟨rev, hrev⟩ : ∃ rev, rev = (removeTo i (adjb l0) cs i).reverse := ⟨_, rfl⟩
      have hrl : ((removeTo i (adjb l0) cs i).map fun x : Nat => (x : Int)).reverse = rev.map fun x : Nat => (x : Int) := by rw [hrev, List.map_reverse]
      have hlen : rev.length = i := by rw [hrev, List.length_reverse, length_removeTo]
      have hrn : ∀ q, q ∈ rev → q < i := by
        intro q hq
        rw [hrev, List.mem_reverse] at hq
        exact (removeTo_nodup i (adjb l0) cs i (Nat.le_refl _)).2 q hq
      obtain ⟨kr, hkr⟩ := reverse_f ((removeTo i (adjb l0) cs i).map fun x : Nat => (x : Int)) (by rw [List.length_map, length_removeTo]; omega)
      have HRV := Aside0.mk (PRegallocColors.slices_Reverse_int_int.calls kr (fun k => wr.heap.size ≤ k) v _ _ wr w4 hB4 (Kd.R_mono (Kd.R_bound hR) (fun k hk => hk.2.1)) hkr)
      rw [hrl] at HRV
      have HREV := Aside0.mk hrev
      have HLEN := Aside0.mk hlen
      have HRN := Aside0.mk hrn
      have HB4 := Aside0.mk hB4
      clear hrl hkr hR hrev hB4 hlen hrn
      go_wp2_with fail
      refine HRV.out.mono ?_
      rintro e w5 ⟨rfl, hR, hB5, hK5⟩
      obtain ⟨Av, cv, hv⟩ := Kd.R_slice hR
      rw [List.length_map, HLEN.out] at hv
      subst hv
      have hRR : Kd.R (Kd.int .i64) 3 w5 wr.heap.size (fun k => wr.heap.size ≤ k ∧ k < w5.heap.size) (.slice Av i cv) (rev.map fun x : Nat => (x : Int)) := by
        exact Kd.R_mono (Kd.R_bound hR) (fun k hk => ⟨hk.2.1, hk.2.2.1⟩)
      have hO : w1.heap.size < wr.heap.size := by have := HS3.out; omega
      have hAdj : AdjB w5 w.heap.size i (fun a b => adjb l0 a b = true) := (HA1.out.below HB3.out hg1).below hB5 (by omega)
      have hCo : CoB w5 w5 w1.heap.size (List.replicate i (-1)) := ⟨grown_refl _ _, HD.out.below hB5 hO⟩
      have hsz5 : wr.heap.size ≤ w5.heap.size := hB5.size
      have HR5 := Aside0.mk hRR
      have HO := Aside0.mk hO
      have HAD := Aside0.mk hAdj
      have HB5 := Aside0.mk hB5
      clear hR hRR hK5 hO hAdj hB5 HRV
      go_wp2_with fail
      go_loopg [37] i (fun k v w' => ∃ t : Nat, v = .int .i64 t ∧ Aside0 (t + k = i) ∧ CoB w5 w' w1.heap.size (selectL i (adjb l0) cs (rev.take t)))
      case atStart => exact ⟨0, rfl, ⟨by omega⟩, hCo⟩
      case round =>
        obtain ⟨go, rfl⟩ : ∃ g : Nat, g = gk := ⟨_, rfl⟩
        obtain ⟨w3, rfl⟩ : ∃ g : World, g = wr := ⟨_, rfl⟩
        obtain ⟨t, rfl, HT, HC⟩ := hrel
        have hO5 : w1.heap.size < w5.heap.size := by have := HO.out; omega
        by_cases hlt : t < i
        · obtain ⟨out, hout⟩ : ∃ out, out = selectL i (adjb l0) cs (rev.take t) := ⟨_, rfl⟩
          have hol : out.length = i := by rw [hout, length_selectL]
          rw [← hout] at HC
          obtain ⟨q, hq⟩ : ∃ q, q = rev.getD t 0 := ⟨_, rfl⟩
          have hqn : q < i := by
            rw [hq]
            refine HRN.out _ ?_
            rw [List.getD_eq_getElem?_getD, List.getElem?_eq_getElem (by rw [HLEN.out]; exact hlt), Option.getD_some]
            exact List.getElem_mem _
          have hnext := selectL_take i (adjb l0) cs rev t (by rw [HLEN.out]; exact hlt)
          rw [← hout, ← hq] at hnext
          have HNX := Aside0.mk hnext
          have HOL := Aside0.mk hol
          have hRw := Kd.R_grown HR5.out HC.1 (fun k hk => by intro e; injection e with e; have := HO.out; omega)
          have hCw := (Kd.R_reads' hRw).2.2
          obtain ⟨ad, had, hcell⟩ := Kd.at_int hCw (t : Int) (by omega) (by rw [List.length_map, HLEN.out]; omega)
          have hcell2 : w3.cell? (ad.add t) = some (.int .i64 (q : Int)) := by
            have e : rd (rev.map fun x : Nat => (x : Int)) (t : Int) = (q : Int) := by
              rw [hq]
              simp [rd, List.getD_eq_getElem?_getD, List.getElem?_map]
              rw [List.getElem?_eq_getElem (by rw [HLEN.out]; exact hlt)]
              simp
            rw [e] at hcell
            simpa using hcell
          subst had
          clear hout hq hnext hol hcell hCw hRw
          go_wp2_with fail
          go_loopg [42] cs (fun k v w' => ∃ c : Nat, v = .int .i64 c ∧ Aside0 (c + k = cs) ∧ Aside0 (∀ c', c' < c → taken i (adjb l0) out q c' = true) ∧ CoB w5 w' w1.heap.size out)
          case atStart => exact ⟨0, rfl, ⟨by omega⟩, ⟨fun _ h => absurd h (Nat.not_lt_zero _)⟩, HC⟩
          case round =>
            obtain ⟨gc, rfl⟩ : ∃ g : Nat, g = gk := ⟨_, rfl⟩
            obtain ⟨w6, rfl⟩ : ∃ g : World, g = wr := ⟨_, rfl⟩
            obtain ⟨c, rfl, HCC, HTK, HC⟩ := hrel
            by_cases hcc : c < cs
            · have hA6 := AdjB.grown HAD.out HC.1 (by omega)
              have hcm : w6.cell? ⟨w.heap.size, q, none⟩ = some (.map (some (w.heap.size + 1 + q))) := by
                rw [hA6.1.cell]
                simp [hqn]
              obtain ⟨o, cnt, hrun, hrg⟩ := (hA6.2 q hqn).range 29 3 4 (P := Try.prog) Try.underlying29
              have HR := CoR.start (c := c) HC hrg
              clear hA6 hrg HC
              go_wp2_with fail
              go_loopg [12] cnt (fun k v w' => ∃ (L : Int → Prop) (cnt' : Nat) (tk : Bool), v = .bool tk ∧ cnt' ≤ k ∧ CoR w5 w' w1.heap.size out i (adjb l0) q c w6.heap.size (w.heap.size + 1 + q) cnt' L tk)
              case atStart => exact ⟨_, _, false, rfl, Nat.le_refl _, HR⟩
              case round =>
                obtain ⟨L, cnt', tk, rfl, hck, HC⟩ := hrel
                have hck := Aside0.mk hck
                rcases HC.2.1.next (P := Try.prog) with ⟨h1, h2, h3⟩ | ⟨k, w7, cnt2, h1, h2, h3, h4, h5, h6⟩
                · have htk := Aside0.mk (HC.done h2)
                  have HB := HC.1
                  clear HC h1 h2
                  cases tk with
                  | true =>
                    go_wp2_with fail
                    go_roundg (gc - 1)
                    case measure => have := HCC.out; omega
                    case rel =>
                      refine ⟨c + 1, by go_num, ⟨by have := HCC.out; omega⟩, ⟨fun c' hc' => ?_⟩, HB⟩
                      rcases Nat.lt_succ_iff_lt_or_eq.1 hc' with h | rfl
                      · exact HTK.out c' h
                      · exact htk.out.symm
                  | false =>
                    have hcell3 : wr.cell? ⟨w1.heap.size, q, none⟩ = some (.int .i64 (out.getD q (-1))) := HB.cell (by rw [HOL.out]; exact hqn)
                    have hfz : wr.frozen? ⟨w1.heap.size, q, none⟩ = false := HB.2.frozen q
                    have HST := Aside0.mk (HB.set q (c : Int))
                    have HNX2 := Aside0.mk (show selectL i (adjb l0) cs (rev.take (t + 1)) = out.set q c by
                      rw [HNX.out]
                      unfold colorStep
                      rw [firstFree_some hcc htk.out.symm HTK.out])
                    go_wp2_with fail
                    go_roundg (go - 1)
                    case measure => have := HT.out; omega
                    case rel =>
                      refine ⟨t + 1, by go_num, ⟨by have := HT.out; omega⟩, ?_⟩
                      rw [HNX2.out]
                      exact HST.out
                · obtain ⟨k', rfl, hk', HC2⟩ := HC.step hO5 h1 h6 h4
                  have hcell3 : w7.cell? ⟨w1.heap.size, k', none⟩ = some (.int .i64 (out.getD k' (-1))) := HC2.1.cell (by rw [HOL.out]; exact hk')
                  obtain ⟨ok, hok⟩ : ∃ x, x = out.getD k' (-1) := ⟨_, rfl⟩
                  rw [← hok] at hcell3 HC2
                  have H5 := Aside0.mk h5
                  clear HC h1 h4 h5 h6 hok
                  cases tk with
                  | true =>
                    go_wp2_with fail
                    go_roundg cnt2
                    case measure => have h1 := H5.out; have h2 := hck.out; omega
                    case rel => exact ⟨_, _, true, rfl, Nat.le_refl _, by simpa using HC2⟩
                  | false =>
                    go_wp2_with fail
                    go_roundg cnt2
                    case measure => have h1 := H5.out; have h2 := hck.out; omega
                    case rel => exact ⟨_, _, _, rfl, Nat.le_refl _, by simpa using HC2⟩
            · have HNX2 := Aside0.mk (show selectL i (adjb l0) cs (rev.take (t + 1)) = out by
                rw [HNX.out]
                unfold colorStep
                rw [firstFree_none (fun c' hc' => HTK.out c' (by have := HCC.out; omega))])
              go_wp2_with fail
              go_roundg (go - 1)
              case measure => have := HT.out; omega
              case rel =>
                refine ⟨t + 1, by go_num, ⟨by have := HT.out; omega⟩, ?_⟩
                rw [HNX2.out]
                exact HC
        · have hti : t = i := by have := HT.out; omega
          have hfin : selectL i (adjb l0) cs (rev.take t) = colorL i (adjb l0) colors := by
            rw [hti, List.take_of_length_le (by rw [HLEN.out]; exact Nat.le_refl _)]
            unfold colorL
            rw [← HCS.out, Int.toNat_natCast, HREV.out]
          rw [hfin] at HC
          have HF := Aside0.mk HC
          clear HC hfin
          go_wp2_with fail
          go_ret
          have hO' := HO.out
          have hB5' : Below w.heap.size w w5 := (HB1.out.trans (HB3.out.mono (by omega))).trans ((HB5.out).mono (by omega))
          refine ⟨_, rfl, ?_, hB5'.trans ⟨HF.out.1.os, HF.out.1.tape, HF.out.1.output, HF.out.1.size, fun q hq => HF.out.1.block q (by omega) (by simp; omega)⟩⟩
          have hlen := length_colorL i (adjb l0) colors
          have := Blk.own (h1 := fun _ => rfl) HF.out.2 (base := w.heap.size) (by omega) (by rw [hlen]; omega) (ok := fun _ => True) trivial
          rw [hlen] at this
          exact this
end Go.Proofs.Ytljacnpadelilaa
