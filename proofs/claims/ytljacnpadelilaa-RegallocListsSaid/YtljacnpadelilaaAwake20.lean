/- ontimelaw20.awake returns true; the contracts of wide, ints and of the reference's Color over lists. Condition: none. -/
import Derived.Test.YtljacnpadelilaaRef20
namespace Go.Proofs.Ytljacnpadelilaa
open Go.RowKit Go.Proofs.YtljacnpadelilaaW.PrintWords Go.Proofs.YtljacnpadelilaaW.PrintLast Go.Proofs.YtljacnpadelilaaW.PrintMore
open Col
theorem ints_calls (A0 : Option Addr) (c0 : Nat) (l0 : List Int) (A1 : Option Addr) (c1 : Nat) (l1 : List Int) (w : World) (hr0 : (Kd.int .i64).C w A0 l0.length l0) (hc0 : l0.length ≤ c0) (hr1 : (Kd.int .i64).C w A1 l1.length l1) (hc1 : l1.length ≤ c1) (hm : l0.length ≤ 9223372036854775807) :
    Calls Try.prog 26 #[.slice A0 l0.length c0, .slice A1 l1.length c1] w fun e w' => e = .returned (.bool (decide (l0 = l1))) ∧ Drawn0 w w' := by
  obtain ⟨k, hk⟩ := ints_f l0 l1 hm
  exact PRegallocColors.ontimelaw20_ints.calls k A0 c0 l0 A1 c1 l1 _ w hr0 hc0 hr1 hc1 hk
theorem wide_calls (A0 : Option Addr) (c0 : Nat) (l0 : List (List Int)) (w : World) (hr0 : Kd.C (Kd.slice 3 (Kd.int .i64)) w A0 l0.length l0) (hc0 : l0.length ≤ c0) (hm : l0.length ≤ 9223372036854775807) :
    Calls Try.prog 25 #[.slice A0 l0.length c0] w fun e w' => e = .returned (.bool (wideB l0)) ∧ Drawn0 w w' := by
  obtain ⟨k, hk⟩ := wide_f l0 hm
  exact PRegallocColors.ontimelaw20_wide.calls k A0 c0 l0 _ w hr0 hc0 hk
theorem refColor_calls (A0 : Option Addr) (c0 : Nat) (l0 : List (List Int)) (colors : Int) (w : World) (hr0 : Kd.C (Kd.slice 3 (Kd.int .i64)) w A0 l0.length l0) (hc0 : l0.length ≤ c0) {M : Nat} (h : LeM l0 M) (hcol : colors < 1000000000) :
    Calls Try.prog 28 #[.slice A0 l0.length c0, .int .i64 colors] w fun e w' => ∃ v, e = .returned v ∧ Kd.R (Kd.int .i64) 3 w' w.heap.size (fun _ => True) v (colorL l0.length (adjb l0) colors) ∧ Below w.heap.size w w' := by
  obtain ⟨k, hk⟩ := refColor_f h colors hcol
  exact PRegallocColors.ontimeref20_Color.calls k A0 c0 l0 colors _ w hr0 hc0 hk

theorem Blk.ints {w : World} {g : Nat} {xs : List Int} {T : TypeId} (h : Blk w g (nums .i64 xs) T) (hl : xs.length ≤ 140737488355328) : (Kd.int .i64).C w (some ⟨g, 0, none⟩) xs.length xs := by
  have := Kd.R_reads' (Blk.own (h1 := fun _ => rfl) h (base := 0) (Nat.zero_le _) hl (ok := fun _ => True) trivial)
  exact this.2.2
/-- A row of slices: A, c: each one's address and capacity. -/
theorem Blk.rows {w : World} {g : Nat} {rows : List (Option Addr × Nat × List Int)} {T : TypeId} (h : Blk w g (rows.map fun r => Value.slice r.1 r.2.2.length r.2.1) T) (hl : rows.length ≤ 140737488355328)
    (hr : ∀ r ∈ rows, r.2.2.length ≤ r.2.1 ∧ (Kd.int .i64).C w r.1 r.2.2.length r.2.2) : Kd.C (Kd.slice 3 (Kd.int .i64)) w (some ⟨g, 0, none⟩) rows.length (rows.map fun r => r.2.2) := by
  refine ⟨by simp, by omega, fun _ => ⟨_, rfl, fun j p hp => ?_⟩⟩
  rw [List.getElem?_map] at hp
  obtain ⟨r, hr1, rfl⟩ := Option.map_eq_some_iff.1 hp
  obtain ⟨h1, h2⟩ := hr r (List.mem_of_getElem? hr1)
  refine ⟨[Value.slice r.1 r.2.2.length r.2.1], rfl, ⟨r.1, r.2.1, rfl, h1, h2⟩, fun i u hu => ?_⟩
  cases i with
  | zero =>
    simp only [List.getElem?_cons_zero, Option.some.injEq] at hu
    subst hu
    show w.cell? ((⟨g, 0, none⟩ : Addr).add (j * 1 + 0)) = _
    rw [add_plain, Nat.mul_one, Nat.add_zero, h.cell, List.getElem?_map, hr1]
    rfl
  | succ i => simp at hu

def ex20 : List (List Int) := [[1, 2], [2], []]
theorem ex20_two : colorL ex20.length (adjb ex20) 2 = [-1, 1, 0] := by decide +kernel
theorem ex20_three : colorL ex20.length (adjb ex20) 3 = [2, 1, 0] := by decide +kernel
set_option maxHeartbeats 2000000 in
set_option maxRecDepth 100000 in
theorem awake20_calls (w : World) : Calls Try.prog 24 #[] w fun e w' => e = .returned (.bool true) ∧ Below w.heap.size w w' := by
  go_enter Try.func24, Try.ntmps24
  go_wp2_with fail
  obtain ⟨W0, hW0⟩ : ∃ W0, W0 = ((((w.alloc (.cells #[.int .i64 1, .int .i64 2] 3)).alloc (.cells #[.int .i64 2] 3)).alloc (.cells #[] 3)).alloc (.cells #[.slice (some ⟨w.heap.size, 0, none⟩) 2 2, .slice (some ⟨w.heap.size + 1, 0, none⟩) 1 1, .slice (some ⟨w.heap.size + 1 + 1, 0, none⟩) 0 0] 26)) := ⟨_, rfl⟩
  rw [← hW0]
  have hsz : W0.heap.size = w.heap.size + 4 := by rw [hW0]; simp
  have hB0 : Below w.heap.size w W0 := by
    rw [hW0]
    exact ((((Below.refl _ _).alloc (Nat.le_refl _) _).alloc (by simp) _).alloc (by simp; omega) _).alloc (by simp; omega) _
  have b1 : Blk W0 w.heap.size (nums .i64 [1, 2]) 3 := by
    rw [hW0]
    exact (((Blk.new (nums .i64 [1, 2]) 3).alloc _).alloc _).alloc _
  have b2 : Blk W0 (w.heap.size + 1) (nums .i64 [2]) 3 := by
    rw [hW0]
    have := Blk.new (w := w.alloc (.cells #[.int .i64 1, .int .i64 2] 3)) (nums .i64 [2]) 3
    rw [World.size_alloc] at this
    exact (this.alloc _).alloc _
  have b3 : Blk W0 (w.heap.size + 1 + 1) (nums .i64 []) 3 := by
    rw [hW0]
    have := Blk.new (w := (w.alloc (.cells #[.int .i64 1, .int .i64 2] 3)).alloc (.cells #[.int .i64 2] 3)) (nums .i64 []) 3
    rw [World.size_alloc, World.size_alloc] at this
    exact this.alloc _
  have b4 : Blk W0 (w.heap.size + 1 + 1 + 1) ([(some ⟨w.heap.size, 0, none⟩, 2, [1, 2]), (some ⟨w.heap.size + 1, 0, none⟩, 1, [2]), (some ⟨w.heap.size + 1 + 1, 0, none⟩, 0, [])].map fun r : Option Addr × Nat × List Int => Value.slice r.1 r.2.2.length r.2.1) 26 := by
    rw [hW0]
    have := Blk.new (w := ((w.alloc (.cells #[.int .i64 1, .int .i64 2] 3)).alloc (.cells #[.int .i64 2] 3)).alloc (.cells #[] 3)) ([(some ⟨w.heap.size, 0, none⟩, 2, [1, 2]), (some ⟨w.heap.size + 1, 0, none⟩, 1, [2]), (some ⟨w.heap.size + 1 + 1, 0, none⟩, 0, [])].map fun r : Option Addr × Nat × List Int => Value.slice r.1 r.2.2.length r.2.1) 26
    rw [World.size_alloc, World.size_alloc, World.size_alloc] at this
    exact this
  have hC : Kd.C (Kd.slice 3 (Kd.int .i64)) W0 (some ⟨w.heap.size + 1 + 1 + 1, 0, none⟩) ex20.length ex20 := by
    refine Blk.rows b4 (by simp) ?_
    intro r hr
    simp only [List.mem_cons, List.not_mem_nil, or_false] at hr
    rcases hr with rfl | rfl | rfl
    · exact ⟨by simp, b1.ints (by simp)⟩
    · exact ⟨by simp, b2.ints (by simp)⟩
    · exact ⟨by simp, b3.ints (by simp)⟩
  have HC := Aside0.mk hC
  have HB0 := Aside0.mk hB0
  have HSZ := Aside0.mk hsz
  clear hW0 b1 b2 b3 b4 hC hB0 hsz
  refine (color_calls (some ⟨w.heap.size + 1 + 1 + 1, 0, none⟩) 3 ex20 2 W0 HC.out (by decide) (by decide) (by omega)).mono ?_
  rintro e w1 ⟨v, rfl, hR, hB⟩
  rw [ex20_two] at hR
  obtain ⟨Av, cv, hv⟩ := Kd.R_slice hR
  subst hv
  have hB1 : Below w.heap.size w w1 := HB0.out.trans (hB.mono (by have := HSZ.out; omega))
  have HB1 := Aside0.mk hB1
  have HC1 := Aside0.mk (HC.out.imp_ hB (fun _ _ hp => (Kd.slice 3 (Kd.int .i64)).K_below hB hp))
  have HR := Aside0.mk hR
  clear hR hB hB1
  go_wp2_with fail
  have b5 : Blk (w1.alloc (.cells #[.int .i64 (-1), .int .i64 1, .int .i64 0] 3)) w1.heap.size (nums .i64 [-1, 1, 0]) 3 := Blk.new _ _
  refine (ints_calls Av cv [-1, 1, 0] (some ⟨w1.heap.size, 0, none⟩) 3 [-1, 1, 0] _ (Kd.C_alloc (Kd.R_reads' HR.out).2.2 _) (Kd.R_reads' HR.out).2.1 (b5.ints (by simp)) (by simp) (by simp)).mono ?_
  rintro e w2 ⟨rfl, ⟨m, rfl⟩⟩
  rw [show decide (([-1, 1, 0] : List Int) = [-1, 1, 0]) = true from rfl]
  obtain ⟨w2, hw2⟩ : ∃ w2, w2 = (w1.alloc (.cells #[.int .i64 (-1), .int .i64 1, .int .i64 0] 3)).drewN m := ⟨_, rfl⟩
  rw [← hw2]
  have hB2 : Below w1.heap.size w1 w2 := by rw [hw2]; exact pw_below_drewN ((Below.refl _ _).alloc (Nat.le_refl _) _) m
  have HB2 := Aside0.mk hB2
  clear hw2 b5 hB2
  go_wp2_with fail
  have hC2 : Kd.C (Kd.slice 3 (Kd.int .i64)) w2 (some ⟨w.heap.size + 1 + 1 + 1, 0, none⟩) ex20.length ex20 := Kd.C_below HC1.out HB2.out
  refine (color_calls (some ⟨w.heap.size + 1 + 1 + 1, 0, none⟩) 3 ex20 3 w2 hC2 (by decide) (by decide) (by omega)).mono ?_
  rintro e w3 ⟨v, rfl, hR, hB⟩
  rw [ex20_three] at hR
  obtain ⟨Av3, cv3, hv⟩ := Kd.R_slice hR
  subst hv
  have HR3 := Aside0.mk hR
  have HB3 := Aside0.mk hB
  clear hR hB hC2
  go_wp2_with fail
  have b5 : Blk (w3.alloc (.cells #[.int .i64 2, .int .i64 1, .int .i64 0] 3)) w3.heap.size (nums .i64 [2, 1, 0]) 3 := Blk.new _ _
  refine (ints_calls Av3 cv3 [2, 1, 0] (some ⟨w3.heap.size, 0, none⟩) 3 [2, 1, 0] _ (Kd.C_alloc (Kd.R_reads' HR3.out).2.2 _) (Kd.R_reads' HR3.out).2.1 (b5.ints (by simp)) (by simp) (by simp)).mono ?_
  rintro e w4 ⟨rfl, ⟨m2, rfl⟩⟩
  rw [show decide (([2, 1, 0] : List Int) = [2, 1, 0]) = true from rfl]
  obtain ⟨w4, hw4⟩ : ∃ w4, w4 = (w3.alloc (.cells #[.int .i64 2, .int .i64 1, .int .i64 0] 3)).drewN m2 := ⟨_, rfl⟩
  rw [← hw4]
  have hB4 : Below w3.heap.size w3 w4 := by rw [hw4]; exact pw_below_drewN ((Below.refl _ _).alloc (Nat.le_refl _) _) m2
  have hF : Below w.heap.size w w4 := by
    have h1 := HB1.out.size
    have h2 := HB2.out.size
    have h3 := HB3.out.size
    exact ((HB1.out.trans (HB2.out.mono (by omega))).trans (HB3.out.mono (by omega))).trans (hB4.mono (by omega))
  have HF := Aside0.mk hF
  clear hw4 b5 hB4 hF
  go_wp2_with fail
  go_ret
  exact ⟨rfl, HF.out⟩
end Go.Proofs.Ytljacnpadelilaa
