/- RegallocColors: for every graph and every number of colors the law returns true, and each argument reads afterwards as before. Conditions: none. -/
import Derived.Test.YtljacnpadelilaaAwake20
import Derived.Test.YtljacnpadelilaaOpen
import Derived.Test.YtljacnpadelilaaFacts
import Derived.OpenShut
import Derived.ChangeOld
import Derived.SizedLaws
namespace Go.Proofs.Ytljacnpadelilaa.LawColors
open Go.RowKit Go.Proofs.YtljacnpadelilaaW.PrintWords Go.Proofs.YtljacnpadelilaaW.PrintLast Go.Proofs.YtljacnpadelilaaW.PrintMore
open Go.ChangeShapes Go.WideShapes Go.ChangeAt
open Col
set_option maxHeartbeats 2000000 in
set_option maxRecDepth 100000 in
theorem walk (A0 : Option Addr) (c0 : Nat) (l0 : List (List Int)) (colors : Int) (w : World) (hr0 : Kd.C (Kd.slice 3 (Kd.int .i64)) w A0 l0.length l0) (hc0 : l0.length ≤ c0) :
    Calls Try.prog 3 #[.slice A0 l0.length c0, .int .i64 colors] w fun e w' => e = .returned (.bool true) ∧ Below w.heap.size w w' := by
  have HR := Aside0.mk hr0
  have hm : l0.length ≤ 9223372036854775807 := hr0.2.1
  clear hr0
  go_enter Try.func3, Try.ntmps3
  go_wp2_with fail
  refine (awake20_calls w).mono ?_
  rintro e w1 ⟨rfl, hB1⟩
  have HB1 := Aside0.mk hB1
  clear hB1
  go_wp2_with fail
  refine (wide_calls A0 c0 l0 w1 (Kd.C_below HR.out HB1.out) hc0 hm).mono ?_
  rintro e w2 ⟨rfl, ⟨m, rfl⟩⟩
  obtain ⟨w2, hw2⟩ : ∃ w2, w2 = w1.drewN m := ⟨_, rfl⟩
  rw [← hw2]
  have HB2 := Aside0.mk (show Below w.heap.size w w2 by rw [hw2]; exact pw_below_drewN HB1.out m)
  clear hw2
  by_cases hwide : wideB l0 = true
  · rw [hwide]
    go_wp2_with fail
    go_ret
    exact ⟨rfl, HB2.out⟩
  · have hwide' : wideB l0 = false := by simpa using hwide
    rw [hwide']
    have hsmall : l0.length ≤ 24 ∧ ∀ r ∈ l0, r.length ≤ 40 := by
      unfold wideB at hwide'
      rw [Bool.or_eq_false_iff, decide_eq_false_iff_not, List.any_eq_false] at hwide'
      exact ⟨by omega, fun r hr => by have := hwide'.2 r hr; simp at this; omega⟩
    have hM : LeM l0 40 := by
      refine ⟨by omega, by omega, fun i => ?_⟩
      rw [List.getD_eq_getElem?_getD]
      cases hq : l0[i]? with
      | none => simp
      | some r => exact hsmall.2 r (List.mem_of_getElem? hq)
    have HM := Aside0.mk hM
    have hlen : l0.length ≤ 24 := hsmall.1
    clear hwide hwide' hsmall hM
    by_cases hcol : 30 < colors
    · go_wp2_with fail
      go_ret
      exact ⟨rfl, HB2.out⟩
    · go_wp2_with fail
      refine (color_calls A0 c0 l0 colors w2 (Kd.C_below HR.out HB2.out) hc0 (by omega) (by omega)).mono ?_
      rintro e w3 ⟨v, rfl, hR, hB3⟩
      obtain ⟨Av, cv, rfl⟩ := Kd.R_slice hR
      have HR3 := Aside0.mk hR
      have HB3 := Aside0.mk (HB2.out.trans (hB3.mono HB2.out.size))
      clear hR hB3
      go_wp2_with fail
      refine (refColor_calls A0 c0 l0 colors w3 (Kd.C_below HR.out HB3.out) hc0 HM.out (by omega)).mono ?_
      rintro e w4 ⟨v, rfl, hR, hB4⟩
      obtain ⟨Av2, cv2, rfl⟩ := Kd.R_slice hR
      have HR4 := Aside0.mk hR
      have HC3 := Aside0.mk (Kd.C_below (Kd.R_reads' HR3.out).2.2 hB4)
      have HB4 := Aside0.mk (HB3.out.trans (hB4.mono HB3.out.size))
      clear hR hB4
      go_wp2_with fail
      refine (ints_calls Av cv _ Av2 cv2 _ w4 HC3.out (Kd.R_reads' HR3.out).2.1 (Kd.R_reads' HR4.out).2.2 (Kd.R_reads' HR4.out).2.1 (by rw [length_colorL]; omega)).mono ?_
      rintro e w5 ⟨rfl, ⟨m, rfl⟩⟩
      rw [decide_eq_true rfl]
      go_wp2_with fail
      go_ret
      exact ⟨rfl, pw_below_drewN HB4.out m⟩

set_option maxRecDepth 100000 in
theorem lifted (os : Os) (started : os.Started) (H : Type) (enc : TypeId × Value → H) :
    ReturnsInHanded {} Try.checked os 3 .any (Rows.regallocColorsSpec.pre6 enc Try.prog Try.f3 Rows.regallocColorsRow.domain false) (Rows.regallocColorsSpec.post enc Try.prog Try.f3 false true false false) := by
  refine returnsInHanded_of_change_sized (C := Try.checked) Facts.own started (by kernel_rfl) Try.func3
    (ChangeSpec.witness6 (enc := enc) (C := Try.checked) false ⟨#[], #[.slice none 0 0, .int .i64 0], []⟩ 8 (by kernel_rfl) (by kernel_rfl) (by kernel_rfl) (by kernel_rfl)) ?_
  intro W base args ds gs before hval0 hW hcnd hsz0 _
  have hval : ∀ (j : Nat) t v, Try.f3.params[j]? = some t → args[j]? = some v → Value.okWide Try.prog W .any base t v := hval0
  have hW' := hW
  obtain ⟨p, q, hA0, hV, rfl, hfz, hnd⟩ := hW
  have hA : DataW.TrodAll enc Try.prog W 0 (fun _ => true) true Try.f3.params.toList args.toList ds p := hA0
  rw [Try.params3] at hA hval
  obtain ⟨v0, vs0, d0, ds0, p0, q0, hargs, rfl, rfl, h0, r0⟩ := trodAll_cons hA
  obtain ⟨v1, vs1, d1, ds1, p1, q1, rfl, rfl, rfl, h1, r1⟩ := trodAll_cons r0
  obtain ⟨rfl, rfl, rfl⟩ := trodAll_nil r1
  obtain rfl : args = #[v0, v1] := by cases args; simp_all
  obtain ⟨rfl, rfl⟩ := trodVars_none hV
  obtain ⟨a0, len0, cap0, rfl⟩ := okWide_slice Try.underlying22 (hval 0 22 v0 rfl rfl)
  obtain ⟨l0, rfl, hc, hr, _⟩ := Opens.arg (Opens.slice Try.underlying22 (by kernel_rfl) (Opens.slice Try.underlying26 (by kernel_rfl) (Opens.int Try.underlying3))) rfl h0
  obtain ⟨a1, rfl, rfl, rfl, w1⟩ := open_int Try.underlying3 (hval 1 3 v1 rfl rfl) h1
  have lt0 := trod_places h0
  clear hA0 hval0 hsz0
  refine (walk a0 cap0 l0 a1 W hr hc).mono fun e W' ⟨he, bel⟩ => ?_
  subst he
  exact ⟨_, rfl, _, _, _, [], _, [], hW', trodAll_mk1 (shut_bool Try.underlying4 _), (trodAll_cons_mk (Below.trod Facts.laidOut (by kernel_rfl) (of_decide_eq_true (by kernel_rfl)) h0 bel lt0) (trodAll_cons_mk (shut_int Try.underlying3 w1) trodAll_mk0)), rfl, bel.frame _, fun h => by cases h⟩
theorem inPlace : (Rows.regallocColorsRow.inPlace == Try.prog.inPlace 3) = true := by kernel_rfl
theorem unfollowed : (Rows.regallocColorsRow.unfollowed == Try.prog.unfollowed 3) = true := by kernel_rfl
theorem recurses : (Rows.regallocColorsRow.recurses == Try.prog.recurses 3) = true := by kernel_rfl
theorem named : (Rows.regallocColorsRow.named == Try.prog.varsNamed 3) = true := by kernel_rfl
theorem wrapper : Try.f3.isWrapper Try.prog Rows.regallocColorsRow.wrapper Rows.regallocColorsRow.mainSum := by unfold Func.isWrapper; first | (rw [if_pos (by decide +kernel)]; kernel_rfl) | (rw [if_neg (by decide +kernel)]; exact ⟨rfl, rfl⟩)
theorem joined : joinedFacts Try.prog 3 Try.f3 Rows.regallocColorsSpec Rows.regallocColorsRow = true :=
  joined_of (by kernel_rfl) Facts.laidOut Facts.mapsRowed (by kernel_rfl) (by kernel_rfl) (by kernel_rfl) Facts.stops (by kernel_rfl) Facts.stopKnobs inPlace unfollowed recurses named (by kernel_rfl) (by kernel_rfl) (by kernel_rfl) (by kernel_rfl) (by kernel_rfl) (by kernel_rfl) (by kernel_rfl) (by kernel_rfl) (by kernel_rfl)
    (by rw [Facts.plainKeys]; rfl) (by kernel_rfl) Facts.stopsHeard Facts.mayEnter (by rw [Facts.liftsFinal]; rfl) (by rw [Facts.make]; rfl) rfl rfl (by kernel_rfl) (by kernel_rfl) (by kernel_rfl)
theorem over : Rows.regallocColorsRow.holds Try.pinned (OpenSpec.ofChange Rows.regallocColorsSpec) :=
  OpenClaim.holds_of_wide 3 Try.f3 rfl rfl rfl rfl rfl rfl rfl ⟨rfl, rfl, rfl, rfl, rfl⟩ rfl rfl rfl rfl rfl (by kernel_rfl) Try.func3 joined
    (of_decide_eq_true (by kernel_rfl)) wrapper
    (fun os started H enc _ => lifted os started H enc)
theorem proved : Rows.RegallocColorsSaid := over
#print axioms proved
end Go.Proofs.Ytljacnpadelilaa.LawColors
namespace Go.Proofs.Ytljacnpadelilaa
/-- The row, under a short name, for the claim. -/
theorem regallocColors_holds : Rows.RegallocColorsSaid := LawColors.proved
end Go.Proofs.Ytljacnpadelilaa
