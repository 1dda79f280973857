/- RegallocFew: the law returns true for every graph, and its argument reads afterwards as before. Conditions: none. -/
import Derived.Test.YtljacnpadelilaaAwake20
import Derived.Test.YtljacnpadelilaaProper
import Derived.Test.YtljacnpadelilaaOpen
import Derived.Test.YtljacnpadelilaaFacts
import Derived.OpenShut
import Derived.ChangeOld
import Derived.SizedLaws
namespace Go.Proofs.Ytljacnpadelilaa
open Go.RowKit Go.Proofs.YtljacnpadelilaaW.PrintWords Go.Proofs.YtljacnpadelilaaW.PrintLast Go.Proofs.YtljacnpadelilaaW.PrintMore
open Col
theorem wide_small {l0 : List (List Int)} (h : wideB l0 = false) : l0.length ≤ 24 ∧ ∀ r ∈ l0, r.length ≤ 40 := by
  unfold wideB at h
  rw [Bool.or_eq_false_iff, decide_eq_false_iff_not, List.any_eq_false] at h
  exact ⟨by omega, fun r hr => by have := h.2 r hr; simp at this; omega⟩
theorem small_leM {l0 : List (List Int)} (h : l0.length ≤ 24 ∧ ∀ r ∈ l0, r.length ≤ 40) : LeM l0 40 := by
  refine ⟨by omega, by omega, fun i => ?_⟩
  rw [List.getD_eq_getElem?_getD]
  cases hq : l0[i]? with
  | none => simp
  | some r => exact h.2 r (List.mem_of_getElem? hq)
theorem adjacent_calls (A0 : Option Addr) (c0 : Nat) (l0 : List (List Int)) (a b : Nat) (w : World) (hr0 : Kd.C (Kd.slice 3 (Kd.int .i64)) w A0 l0.length l0) (hc0 : l0.length ≤ c0) {M : Nat} (h : LeM l0 M) (ha : a < l0.length) (hb : b < l0.length) :
    Calls Try.prog 29 #[.slice A0 l0.length c0, .int .i64 a, .int .i64 b] w fun e w' => e = .returned (.bool (adjb l0 a b)) ∧ Drawn0 w w' :=
  PRegallocColors.ontimeref20_Adjacent.calls (M + 1) A0 c0 l0 a b _ w hr0 hc0 (adjacent_f h a b (M + 1) ha hb (Nat.lt_succ_self _))
theorem adjb_irr (l : List (List Int)) (a : Nat) : adjb l a a = false := by simp [adjb]
theorem colorB_good (l : List (List Int)) (colors : Int) : Col.Good l.length (adjb l) (max colors 0).toNat (fun a => a < l.length) (colorL l.length (adjb l) colors) := colorL_good _ _ _ (adjb_sym l) (adjb_irr l)
def degB (l : List (List Int)) (a j : Nat) : Nat := ((List.range j).filter (adjb l a)).length
theorem degB_succ (l : List (List Int)) (a j : Nat) : degB l a (j + 1) = degB l a j + if adjb l a j then 1 else 0 := by
  unfold degB
  rw [List.range_succ, List.filter_append, List.length_append, List.filter_cons]
  split <;> rfl
theorem degB_le (l : List (List Int)) (a j : Nat) : degB l a j ≤ j := by
  have := List.length_filter_le (adjb l a) (List.range j)
  rw [List.length_range] at this
  exact this
end Go.Proofs.Ytljacnpadelilaa
namespace Go.Proofs.Ytljacnpadelilaa.LawFew
open Go.RowKit Go.Proofs.YtljacnpadelilaaW.PrintWords Go.Proofs.YtljacnpadelilaaW.PrintLast Go.Proofs.YtljacnpadelilaaW.PrintMore
open Go.ChangeShapes Go.WideShapes Go.ChangeAt
open Col
set_option maxHeartbeats 2000000 in
set_option maxRecDepth 100000 in
theorem walk (A0 : Option Addr) (c0 : Nat) (l0 : List (List Int)) (w : World) (hr0 : Kd.C (Kd.slice 3 (Kd.int .i64)) w A0 l0.length l0) (hc0 : l0.length ≤ c0) :
    Calls Try.prog 5 #[.slice A0 l0.length c0] w fun e w' => e = .returned (.bool true) ∧ Below w.heap.size w w' := by
  have HR := Aside0.mk hr0
  have hm : l0.length ≤ 9223372036854775807 := hr0.2.1
  clear hr0
  go_enter Try.func5, Try.ntmps5
  go_wp2_with fail
  refine (awake20_calls w).mono ?_
  rintro e w1 ⟨rfl, hB1⟩
  have HB1 := Aside0.mk hB1
  clear hB1
  go_wp2_with fail
  refine (wide_calls A0 c0 l0 w1 (Kd.C_below HR.out HB1.out) hc0 hm).mono ?_
  rintro e w2 ⟨rfl, ⟨m, rfl⟩⟩
  obtain ⟨w2, hw2⟩ : ∃ w2, w2 = w1.drewN m := ⟨_, rfl⟩
  rw [← hw2]
  have HB2 := Aside0.mk (show Below w.heap.size w w2 by rw [hw2]; exact pw_below_drewN HB1.out m)
  clear hw2
  by_cases hwide : wideB l0 = true
  · rw [hwide]
    go_wp2_with fail
    go_ret
    exact ⟨rfl, HB2.out⟩
  · have hwide' : wideB l0 = false := by simpa using hwide
    rw [hwide']
    have HM := Aside0.mk (small_leM (wide_small hwide'))
    have hlen : l0.length ≤ 24 := (wide_small hwide').1
    clear hwide hwide'
    obtain ⟨n, hn⟩ : ∃ n, n = l0.length := ⟨_, rfl⟩
    have HN := Aside0.mk hn
    have HADJ : Aside0 (∀ (a b : Nat) (wr : World), Below w.heap.size w wr → a < n → b < n → Calls Try.prog 29 #[.slice A0 n c0, .int .i64 a, .int .i64 b] wr fun e w' => e = .returned (.bool (adjb l0 a b)) ∧ Drawn0 wr w') := ⟨fun a b wr hb h1 h2 => by
      subst hn
      exact adjacent_calls A0 c0 l0 a b wr (Kd.C_below HR.out hb) hc0 HM.out h1 h2⟩
    have HCOL : Aside0 (∀ (colors : Int) (wr : World), Below w.heap.size w wr → colors ≤ 1000000 → Calls Try.prog 27 #[.slice A0 n c0, .int .i64 colors] wr fun e w' => ∃ v, e = .returned v ∧ Kd.R (Kd.int .i64) 3 w' wr.heap.size (fun _ => True) v (colorL n (adjb l0) colors) ∧ Below wr.heap.size wr w') := ⟨fun colors wr hb hc => by
      subst hn
      exact color_calls A0 c0 l0 colors wr (Kd.C_below HR.out hb) hc0 (by omega) hc⟩
    rw [← hn] at hlen hc0 hm ⊢
    clear hn
    go_wp2_with fail
    go_loopg [3, 15] n (fun k v x wr => ∃ i M : Nat, v = .int .i64 M ∧ x = .int .i64 i ∧ Aside0 (i + k = n) ∧ Aside0 (M ≤ n ∧ ∀ a, a < i → degB l0 a n ≤ M) ∧ Aside0 (Below w.heap.size w wr))
    case atStart => exact ⟨0, 0, rfl, rfl, ⟨by omega⟩, ⟨by omega, fun a ha => by omega⟩, HB2⟩
    case round =>
      obtain ⟨i, M, rfl, rfl, HK, HMM, HB⟩ := hrel
      by_cases hlt : i < n
      · obtain ⟨go, rfl⟩ : ∃ g : Nat, g = gk := ⟨_, rfl⟩
        obtain ⟨wo, rfl⟩ : ∃ g : World, g = wr := ⟨_, rfl⟩
        go_wp2_with fail
        go_loopg [5, 20] n (fun k v x wr => ∃ j : Nat, v = .int .i64 (degB l0 i j) ∧ x = .int .i64 j ∧ Aside0 (j + k = n) ∧ Aside0 (Below w.heap.size w wr))
        case atStart => exact ⟨0, rfl, rfl, ⟨by omega⟩, HB⟩
        case round =>
          obtain ⟨j, rfl, rfl, HJ, HB⟩ := hrel
          by_cases hj : j < n
          · have hdl := degB_le l0 i j
            have hds := degB_succ l0 i j
            go_wp2_with fail
            refine (HADJ.out i j wr HB.out hlt hj).mono ?_
            rintro e w3 ⟨rfl, ⟨m, rfl⟩⟩
            obtain ⟨w3, hw3⟩ : ∃ w3, w3 = wr.drewN m := ⟨_, rfl⟩
            rw [← hw3]
            have HB3 := Aside0.mk (show Below w.heap.size w w3 by rw [hw3]; exact pw_below_drewN HB.out m)
            clear hw3
            cases hadj : adjb l0 i j with
            | true =>
              rw [hadj] at hds
              go_wp2_with fail
              go_roundg (gk - 1)
              case measure => have := HJ.out; omega
              case rel => exact ⟨j + 1, by rw [hds]; go_num, by go_num, ⟨by have := HJ.out; omega⟩, HB3⟩
            | false =>
              rw [hadj] at hds
              go_wp2_with fail
              go_roundg (gk - 1)
              case measure => have := HJ.out; omega
              case rel => exact ⟨j + 1, by rw [hds]; go_num, by go_num, ⟨by have := HJ.out; omega⟩, HB3⟩
          · have hjn : j = n := by have := HJ.out; omega
            subst hjn
            have hdl := degB_le l0 i j
            obtain ⟨d, hd⟩ : ∃ d, d = degB l0 i j := ⟨_, rfl⟩
            rw [← hd] at hdl ⊢
            have HD := Aside0.mk hd
            clear hd
            have hmax : ∀ (W : World) ty, (Builtin.max_ #[3, 3] ty #[.int .i64 M, .int .i64 d]).run Try.prog W = .ok (.int .i64 (max M d : Nat)) W := by
              intro W ty
              rw [max_two, max2_int]
              have : (if (M : Int) < d then (d : Int) else M) = ((max M d : Nat) : Int) := by split <;> omega
              rw [this]
              rfl
            go_wp2_with fail
            go_roundg (go - 1)
            case measure => have := HK.out; omega
            case rel =>
              refine ⟨i + 1, max M d, rfl, by go_num, ⟨by have := HK.out; omega⟩, ⟨by have := HMM.out.1; omega, fun a ha => ?_⟩, HB⟩
              by_cases e : a = i
              · subst e; rw [← HD.out]; omega
              · have := HMM.out.2 a (by omega); omega
      · have hin : i = n := by have := HK.out; omega
        subst hin
        have hM : M ≤ i := HMM.out.1
        have hG := colorB_good l0 ((M : Int) + 1)
        rw [← HN.out] at hG
        have hcs : (max ((M : Int) + 1) 0).toNat = M + 1 := by omega
        rw [hcs] at hG
        have hlow : ∀ a, a < i → 0 ≤ (colorL i (adjb l0) ((M : Int) + 1)).getD a (-1) ∧ (colorL i (adjb l0) ((M : Int) + 1)).getD a (-1) ≤ M := fun a ha => by
          have h1 := hG.few ha (by have := HMM.out.2 a ha; unfold degB at this; omega)
          have h2 := hG.hi a
          omega
        have hcl := length_colorL i (adjb l0) ((M : Int) + 1)
        obtain ⟨col, hcol⟩ : ∃ col, col = colorL i (adjb l0) ((M : Int) + 1) := ⟨_, rfl⟩
        rw [← hcol] at hlow hcl
        have HCD := Aside0.mk hcol
        have HLOW := Aside0.mk hlow
        have HCL := Aside0.mk hcl
        clear hG hcs hlow hcol hcl
        go_wp2_with fail
        refine (HCOL.out ((M : Int) + 1) wr HB.out (by omega)).mono ?_
        rintro e w3 ⟨v, rfl, hR, hB3⟩
        rw [← HCD.out] at hR
        obtain ⟨Av, cv, hv⟩ := Kd.R_slice hR
        rw [HCL.out] at hv
        subst hv
        have HC := Aside0.mk (Kd.R_reads' hR).2.2
        have HB3 := Aside0.mk (HB.out.trans (hB3.mono HB.out.size))
        clear hR hB3
        go_wp2_with fail
        go_loopg [39] i (fun k x wr => ∃ t : Nat, x = .int .i64 t ∧ Aside0 (t + k = i) ∧ Aside0 (wr = w3))
        case atStart => exact ⟨0, rfl, ⟨by omega⟩, ⟨rfl⟩⟩
        case round =>
          obtain ⟨t, rfl, HT, HW⟩ := hrel
          obtain rfl := HW.out
          clear HW
          by_cases ht : t < i
          · obtain ⟨ad, had, hcell⟩ := Kd.at_int HC.out (t : Int) (by omega) (by rw [HCL.out]; omega)
            obtain ⟨c, hc⟩ : ∃ c, c = col.getD t (-1) := ⟨_, rfl⟩
            have hcell2 : wr.cell? (ad.add t) = some (.int .i64 c) := by
              have e : rd col (t : Int) = c := by
                rw [hc]
                simp [rd, List.getD_eq_getElem?_getD]
                rw [List.getElem?_eq_getElem (by rw [HCL.out]; exact ht)]
                simp
              rw [e] at hcell
              simpa using hcell
            subst had
            obtain ⟨b1, b2⟩ := HLOW.out t ht
            rw [← hc] at b1 b2
            clear hcell hc
            go_wp2_with fail
            go_roundg (gk - 1)
            case measure => have := HT.out; omega
            case rel => exact ⟨t + 1, by go_num, ⟨by have := HT.out; omega⟩, ⟨rfl⟩⟩
          · go_wp2_with fail
            refine (HCOL.out ((M : Int) + 1) wr HB3.out (by omega)).mono ?_
            rintro e w4 ⟨v, rfl, hR, hB4⟩
            rw [← HCD.out] at hR
            obtain ⟨Av2, cv2, hv⟩ := Kd.R_slice hR
            rw [HCL.out] at hv
            subst hv
            have HB4 := Aside0.mk (HB3.out.trans (hB4.mono HB3.out.size))
            clear hR hB4
            go_wp2_with fail
            go_ret
            exact ⟨rfl, HB4.out⟩
set_option maxRecDepth 100000 in
theorem lifted (os : Os) (started : os.Started) (H : Type) (enc : TypeId × Value → H) :
    ReturnsInHanded {} Try.checked os 5 .any (Rows.regallocFewSpec.pre6 enc Try.prog Try.f5 Rows.regallocFewRow.domain false) (Rows.regallocFewSpec.post enc Try.prog Try.f5 false true false false) := by
  refine returnsInHanded_of_change_sized (C := Try.checked) Facts.own started (by kernel_rfl) Try.func5
    (ChangeSpec.witness6 (enc := enc) (C := Try.checked) false ⟨#[], #[.slice none 0 0], []⟩ 8 (by kernel_rfl) (by kernel_rfl) (by kernel_rfl) (by kernel_rfl)) ?_
  intro W base args ds gs before hval0 hW hcnd hsz0 _
  have hval : ∀ (j : Nat) t v, Try.f5.params[j]? = some t → args[j]? = some v → Value.okWide Try.prog W .any base t v := hval0
  have hW' := hW
  obtain ⟨p, q, hA0, hV, rfl, hfz, hnd⟩ := hW
  have hA : DataW.TrodAll enc Try.prog W 0 (fun _ => true) true Try.f5.params.toList args.toList ds p := hA0
  rw [Try.params5] at hA hval
  obtain ⟨v0, vs0, d0, ds0, p0, q0, hargs, rfl, rfl, h0, r0⟩ := trodAll_cons hA
  obtain ⟨rfl, rfl, rfl⟩ := trodAll_nil r0
  obtain rfl : args = #[v0] := by cases args; simp_all
  obtain ⟨rfl, rfl⟩ := trodVars_none hV
  obtain ⟨a0, len0, cap0, rfl⟩ := okWide_slice Try.underlying22 (hval 0 22 v0 rfl rfl)
  obtain ⟨l0, rfl, hc, hr, _⟩ := Opens.arg (Opens.slice Try.underlying22 (by kernel_rfl) (Opens.slice Try.underlying26 (by kernel_rfl) (Opens.int Try.underlying3))) rfl h0
  have lt0 := trod_places h0
  clear hA0 hval0 hsz0
  refine (walk a0 cap0 l0 W hr hc).mono fun e W' ⟨he, bel⟩ => ?_
  subst he
  exact ⟨_, rfl, _, _, _, [], _, [], hW', trodAll_mk1 (shut_bool Try.underlying4 _), (trodAll_cons_mk (Below.trod Facts.laidOut (by kernel_rfl) (of_decide_eq_true (by kernel_rfl)) h0 bel lt0) trodAll_mk0), rfl, bel.frame _, fun h => by cases h⟩
theorem inPlace : (Rows.regallocFewRow.inPlace == Try.prog.inPlace 5) = true := by kernel_rfl
theorem unfollowed : (Rows.regallocFewRow.unfollowed == Try.prog.unfollowed 5) = true := by kernel_rfl
theorem recurses : (Rows.regallocFewRow.recurses == Try.prog.recurses 5) = true := by kernel_rfl
theorem named : (Rows.regallocFewRow.named == Try.prog.varsNamed 5) = true := by kernel_rfl
theorem wrapper : Try.f5.isWrapper Try.prog Rows.regallocFewRow.wrapper Rows.regallocFewRow.mainSum := by unfold Func.isWrapper; first | (rw [if_pos (by decide +kernel)]; kernel_rfl) | (rw [if_neg (by decide +kernel)]; exact ⟨rfl, rfl⟩)
theorem joined : joinedFacts Try.prog 5 Try.f5 Rows.regallocFewSpec Rows.regallocFewRow = true :=
  joined_of (by kernel_rfl) Facts.laidOut Facts.mapsRowed (by kernel_rfl) (by kernel_rfl) (by kernel_rfl) Facts.stops (by kernel_rfl) Facts.stopKnobs inPlace unfollowed recurses named (by kernel_rfl) (by kernel_rfl) (by kernel_rfl) (by kernel_rfl) (by kernel_rfl) (by kernel_rfl) (by kernel_rfl) (by kernel_rfl) (by kernel_rfl)
    (by rw [Facts.plainKeys]; rfl) (by kernel_rfl) Facts.stopsHeard Facts.mayEnter (by rw [Facts.liftsFinal]; rfl) (by rw [Facts.make]; rfl) rfl rfl (by kernel_rfl) (by kernel_rfl) (by kernel_rfl)
theorem over : Rows.regallocFewRow.holds Try.pinned (OpenSpec.ofChange Rows.regallocFewSpec) :=
  OpenClaim.holds_of_wide 5 Try.f5 rfl rfl rfl rfl rfl rfl rfl ⟨rfl, rfl, rfl, rfl, rfl⟩ rfl rfl rfl rfl rfl (by kernel_rfl) Try.func5 joined
    (of_decide_eq_true (by kernel_rfl)) wrapper
    (fun os started H enc _ => lifted os started H enc)
theorem proved : Rows.RegallocFewSaid := over
#print axioms proved
end Go.Proofs.Ytljacnpadelilaa.LawFew
namespace Go.Proofs.Ytljacnpadelilaa
/-- The row, under a short name, for the claim. -/
theorem regallocFew_holds : Rows.RegallocFewSaid := LawFew.proved
end Go.Proofs.Ytljacnpadelilaa
