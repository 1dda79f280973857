/- RegallocProper: the law returns true for every graph and number of colors, and each argument reads afterwards as before. Conditions: none. -/
import Derived.Test.YtljacnpadelilaaGraph
import Derived.Test.YtljacnpadelilaaSet2
import Derived.Test.YtljacnpadelilaaOpen
import Derived.Test.YtljacnpadelilaaFacts
import Derived.OpenShut
import Derived.ChangeOld
import Derived.SizedLaws
namespace Go.Proofs.Ytljacnpadelilaa.LawProper
open Go.RowKit Go.Proofs.YtljacnpadelilaaW.PrintWords Go.Proofs.YtljacnpadelilaaW.PrintLast Go.Proofs.YtljacnpadelilaaW.PrintMore
open Go.ChangeShapes Go.WideShapes Go.ChangeAt
open Go.ChangeMaps (setBlock)
open Col
/-- Which colors have been seen at the first j nodes. -/
def Seen (adj : Nat → Nat → Bool) (out : List Int) (a j : Nat) (q : Int) : Prop := ∃ b, b < j ∧ adj a b = true ∧ out.getD b (-1) = q ∧ 0 ≤ q
theorem seen_succ {adj : Nat → Nat → Bool} {out : List Int} {a j : Nat} (q : Int) : Seen adj out a (j + 1) q ↔ Seen adj out a j q ∨ (adj a j = true ∧ out.getD j (-1) = q ∧ 0 ≤ q) := by
  unfold Seen
  constructor
  · rintro ⟨b, h1, h2, h3, h4⟩
    by_cases e : b = j
    · subst e; exact .inr ⟨h2, h3, h4⟩
    · exact .inl ⟨b, by omega, h2, h3, h4⟩
  · rintro (⟨b, h1, h2, h3, h4⟩ | ⟨h2, h3, h4⟩)
    · exact ⟨b, by omega, h2, h3, h4⟩
    · exact ⟨j, by omega, h2, h3, h4⟩
theorem seen_all {n : Nat} {adj : Nat → Nat → Bool} {cs : Nat} {out : List Int} (h : Col.Good n adj cs (fun a => a < n) out) (a : Nat) (q : Int) : Seen adj out a n q ↔ ∃ k' : Nat, q = k' ∧ k' < cs ∧ taken n adj out a k' = true := by
  constructor
  · rintro ⟨b, h1, h2, h3, h4⟩
    obtain ⟨c, rfl⟩ := Int.eq_ofNat_of_zero_le h4
    have := h.hi b
    exact ⟨c, rfl, by omega, taken_iff.2 ⟨b, h1, h2, h3⟩⟩
  · rintro ⟨c, rfl, hc, ht⟩
    obtain ⟨k, h1, h2, h3⟩ := taken_iff.1 ht
    exact ⟨k, h1, h2, h3, by omega⟩
theorem filter_full {n : Nat} {adj : Nat → Nat → Bool} {cs : Nat} {out : List Int} (h : Col.Good n adj cs (fun a => a < n) out) {a : Nat} (ha : a < n) (hneg : out.getD a (-1) < 0) : ((List.range cs).filter fun c => taken n adj out a c).length = cs := by
  rw [List.filter_eq_self.2, List.length_range]
  intro c hc
  exact h.full a ha hneg c (List.mem_range.1 hc)
/-- A cell of the colors. -/
theorem cell_of {w : World} {Av : Option Addr} {n : Nat} {col : List Int} (h : (Kd.int .i64).C w Av n col) (hl : col.length = n) (t : Nat) (ht : t < n) : ∃ ad, Av = some ad ∧ w.cell? (ad.add t) = some (.int .i64 (col.getD t (-1))) := by
  have hn := h.2.1
  obtain ⟨ad, had, hcell⟩ := Kd.at_int h (t : Int) (by omega) (by omega)
  refine ⟨ad, had, ?_⟩
  have e : rd col (t : Int) = col.getD t (-1) := by
    simp [rd, List.getD_eq_getElem?_getD]
    rw [List.getElem?_eq_getElem (by omega)]
    simp
  rw [e] at hcell
  simpa using hcell
set_option maxHeartbeats 4000000 in
set_option maxRecDepth 100000 in
theorem walk (A0 : Option Addr) (c0 : Nat) (l0 : List (List Int)) (colors : Int) (w : World) (hr0 : Kd.C (Kd.slice 3 (Kd.int .i64)) w A0 l0.length l0) (hc0 : l0.length ≤ c0) (hwf : (Lit.int .u8 colors).wf = true) :
    Calls Try.prog 4 #[.slice A0 l0.length c0, .int .u8 colors] w fun e w' => e = .returned (.bool true) ∧ Below w.heap.size w w' := by
  have HR := Aside0.mk hr0
  have hm : l0.length ≤ 9223372036854775807 := hr0.2.1
  have hcr : 0 ≤ colors ∧ colors < 256 := by
    simp [Lit.wf, IntKind.min, IntKind.max, IntKind.signed, IntKind.bits] at hwf
    omega
  clear hr0 hwf
  go_enter Try.func4, Try.ntmps4
  go_wp2_with fail
  refine (awake20_calls w).mono ?_
  rintro e w1 ⟨rfl, hB1⟩
  have HB1 := Aside0.mk hB1
  clear hB1
  go_wp2_with fail
  refine (wide_calls A0 c0 l0 w1 (Kd.C_below HR.out HB1.out) hc0 hm).mono ?_
  rintro e w2 ⟨rfl, ⟨m, rfl⟩⟩
  obtain ⟨w2, hw2⟩ : ∃ w2, w2 = w1.drewN m := ⟨_, rfl⟩
  rw [← hw2]
  have HB2 := Aside0.mk (show Below w.heap.size w w2 by rw [hw2]; exact pw_below_drewN HB1.out m)
  clear hw2
  by_cases hwide : wideB l0 = true
  · rw [hwide]
    go_wp2_with fail
    go_ret
    exact ⟨rfl, HB2.out⟩
  · have hwide' : wideB l0 = false := by simpa using hwide
    rw [hwide']
    have HM := Aside0.mk (small_leM (wide_small hwide'))
    have hlen : l0.length ≤ 24 := (wide_small hwide').1
    clear hwide hwide'
    obtain ⟨n, hn⟩ : ∃ n, n = l0.length := ⟨_, rfl⟩
    have HN := Aside0.mk hn
    have HADJ : Aside0 (∀ (a b : Nat) (wr : World), Below w.heap.size w wr → a < n → b < n → Calls Try.prog 29 #[.slice A0 n c0, .int .i64 a, .int .i64 b] wr fun e w' => e = .returned (.bool (adjb l0 a b)) ∧ Drawn0 wr w') := ⟨fun a b wr hb h1 h2 => by
      subst hn
      exact adjacent_calls A0 c0 l0 a b wr (Kd.C_below HR.out hb) hc0 HM.out h1 h2⟩
    have HCOL : Aside0 (∀ (colors : Int) (wr : World), Below w.heap.size w wr → colors ≤ 1000000 → Calls Try.prog 27 #[.slice A0 n c0, .int .i64 colors] wr fun e w' => ∃ v, e = .returned v ∧ Kd.R (Kd.int .i64) 3 w' wr.heap.size (fun _ => True) v (colorL n (adjb l0) colors) ∧ Below wr.heap.size wr w') := ⟨fun colors wr hb hc => by
      subst hn
      exact color_calls A0 c0 l0 colors wr (Kd.C_below HR.out hb) hc0 (by omega) hc⟩
    rw [← hn] at hlen hc0 hm ⊢
    clear hn
    go_wp2_with fail
    obtain ⟨kk, hkk⟩ : ∃ kk, kk = colors % 31 := ⟨_, rfl⟩
    have hk0 : 0 ≤ kk ∧ kk < 31 := by omega
    rw [← hkk]
    obtain ⟨cs, rfl⟩ := Int.eq_ofNat_of_zero_le hk0.1
    have hcs : cs < 31 := by omega
    have hG : Col.Good n (adjb l0) cs (fun a => a < n) (colorL n (adjb l0) cs) := by
      have := colorB_good l0 cs
      rw [← HN.out] at this
      have e : (max (cs : Int) 0).toNat = cs := by omega
      rw [e] at this
      exact this
    clear hkk hk0
    refine (HCOL.out cs w2 HB2.out (by omega)).mono ?_
    rintro e w3 ⟨v, rfl, hR, hB3⟩
    have hcl := length_colorL n (adjb l0) cs
    obtain ⟨col, hcol⟩ : ∃ col, col = colorL n (adjb l0) cs := ⟨_, rfl⟩
    rw [← hcol] at hR hG hcl
    obtain ⟨Av, cv, hv⟩ := Kd.R_slice hR
    rw [hcl] at hv
    subst hv
    have HC := Aside0.mk (show (Kd.int .i64).C w3 Av n col by have := (Kd.R_reads' hR).2.2; rw [hcl] at this; exact this)
    have HB3 := Aside0.mk (HB2.out.trans (hB3.mono HB2.out.size))
    have HG := Aside0.mk hG
    have HCL := Aside0.mk hcl
    clear hR hB3 hcol hG hcl
    go_wp2_with fail
    go_loopg [27] n (fun k x wr => ∃ i : Nat, x = .int .i64 i ∧ Aside0 (i + k = n) ∧ Aside0 (Below w3.heap.size w3 wr))
    case atStart => exact ⟨0, rfl, ⟨by omega⟩, ⟨Below.refl _ _⟩⟩
    case round =>
      obtain ⟨i, rfl, HK, HB⟩ := hrel
      by_cases hlt : i < n
      · obtain ⟨go, rfl⟩ : ∃ g : Nat, g = gk := ⟨_, rfl⟩
        obtain ⟨wo, rfl⟩ : ∃ g : World, g = wr := ⟨_, rfl⟩
        obtain ⟨ad, rfl, hcell⟩ := cell_of HC.out HCL.out i hlt
        have hcello := pw_cell_below HB.out hcell
        obtain ⟨ci, hci⟩ : ∃ c, c = col.getD i (-1) := ⟨_, rfl⟩
        rw [← hci] at hcello
        have HCI := Aside0.mk hci
        have b1 := HG.out.lo i
        have b2 := HG.out.hi i
        rw [← hci] at b1 b2
        have hmm := @run_makeMap Try.prog
        clear hcell hci
        have d1 : decide (ci < -1) = false := by simpa using b1
        have d2 : decide ((cs : Int) ≤ ci) = false := by simpa using b2
        go_wp2_with fail
        have hW0 : Below w3.heap.size w3 (wo.alloc (.map #[] 0)) := HB.out.alloc HB.out.size _
        have hS0 : SetB (wo.alloc (.map #[] 0)) wo.heap.size (Seen (adjb l0) col i 0) := (SetB.empty (heap_alloc_new wo _)).congr fun q => by simp [Seen]
        obtain ⟨bm, hbm⟩ : ∃ bm, bm = wo.heap.size := ⟨_, rfl⟩
        have hb3 : w3.heap.size ≤ bm := by rw [hbm]; exact HB.out.size
        rw [← hbm] at hS0 ⊢
        clear hmm hcello d1 hbm
        go_loopg [46] n (fun k x wr => ∃ j : Nat, x = .int .i64 j ∧ Aside0 (j + k = n) ∧ Aside0 (Below w3.heap.size w3 wr) ∧ SetB wr bm (Seen (adjb l0) col i j))
        case atStart => exact ⟨0, rfl, ⟨by omega⟩, ⟨hW0⟩, hS0⟩
        case round =>
          obtain ⟨j, rfl, HJ, HB, HS⟩ := hrel
          clear hW0 hS0
          by_cases hj : j < n
          · go_wp2_with fail
            refine (HADJ.out i j wr (HB3.out.trans (HB.out.mono HB3.out.size)) hlt hj).mono ?_
            rintro e w4 ⟨rfl, ⟨m, rfl⟩⟩
            obtain ⟨w4, hw4⟩ : ∃ w4, w4 = wr.drewN m := ⟨_, rfl⟩
            rw [← hw4]
            have HB4 := Aside0.mk (show Below w3.heap.size w3 w4 by rw [hw4]; exact pw_below_drewN HB.out m)
            have HS4 : SetB w4 bm (Seen (adjb l0) col i j) := by
              rw [hw4]
              exact HS.move rfl
            clear hw4 HS HB
            cases hadj : adjb l0 i j with
            | true =>
              obtain ⟨ad', had', hcelli⟩ := cell_of HC.out HCL.out i hlt
              obtain rfl := Option.some.inj had'
              obtain ⟨ad', had', hcellj⟩ := cell_of HC.out HCL.out j hj
              obtain rfl := Option.some.inj had'
              have hcelli := pw_cell_below HB4.out hcelli
              have hcellj := pw_cell_below HB4.out hcellj
              rw [← HCI.out] at hcelli
              have hpr := HG.out.proper i j hadj
              rw [← HCI.out] at hpr
              obtain ⟨cj, hcj⟩ : ∃ c, c = col.getD j (-1) := ⟨_, rfl⟩
              rw [← hcj] at hcellj hpr
              have HCJ := Aside0.mk hcj
              have HAD := Aside0.mk hadj
              clear hcj hadj had'
              have hguard : (decide (0 ≤ ci) = false) ∨ (decide (0 ≤ ci) = true ∧ (ci == cj) = false) := by
                by_cases h : 0 ≤ ci
                · exact .inr ⟨by simpa using h, by simpa using hpr h⟩
                · exact .inl (by simpa using h)
              clear hpr
              rcases hguard with g1 | ⟨g1, g2⟩
              · by_cases hcp : 0 ≤ cj
                · obtain ⟨o, hput⟩ := HS4.putAll (P := Try.prog) Try.underlying29 Try.underlying3 cj
                  have HP := Aside0.mk hput
                  clear hput
                  go_wp2_with fail
                  go_quiet (fail)
                  obtain ⟨hup, hS5⟩ := HP.out (w4.drewN nq) rfl
                  have HS5 := Aside0.mk hS5
                  clear hS5
                  go_wp2_with fail
                  go_roundg (gk - 1)
                  case measure => have := HJ.out; omega
                  case rel => exact ⟨j + 1, by go_num, ⟨by have := HJ.out; omega⟩, ⟨below_setBlock (pw_below_drewN HB4.out _) hb3 _⟩, HS5.out.congr fun q => by
                    rw [seen_succ, HAD.out, ← HCJ.out]
                    constructor
                    · rintro (h | rfl)
                      · exact .inl h
                      · exact .inr ⟨rfl, rfl, hcp⟩
                    · rintro (h | ⟨_, rfl, _⟩)
                      · exact .inl h
                      · exact .inr rfl⟩
                · go_wp2_with fail
                  go_quiet (fail)
                  go_wp2_with fail
                  go_roundg (gk - 1)
                  case measure => have := HJ.out; omega
                  case rel => exact ⟨j + 1, by go_num, ⟨by have := HJ.out; omega⟩, ⟨pw_below_drewN HB4.out _⟩, (HS4.move rfl).congr fun q => by
                    rw [seen_succ, HAD.out, ← HCJ.out]
                    constructor
                    · exact .inl
                    · rintro (h | ⟨_, rfl, h⟩)
                      · exact h
                      · omega⟩
              · by_cases hcp : 0 ≤ cj
                · obtain ⟨o, hput⟩ := HS4.putAll (P := Try.prog) Try.underlying29 Try.underlying3 cj
                  have HP := Aside0.mk hput
                  clear hput
                  go_wp2_with fail
                  go_quiet (fail)
                  obtain ⟨hup, hS5⟩ := HP.out (w4.drewN nq) rfl
                  have HS5 := Aside0.mk hS5
                  clear hS5
                  go_wp2_with fail
                  go_roundg (gk - 1)
                  case measure => have := HJ.out; omega
                  case rel => exact ⟨j + 1, by go_num, ⟨by have := HJ.out; omega⟩, ⟨below_setBlock (pw_below_drewN HB4.out _) hb3 _⟩, HS5.out.congr fun q => by
                    rw [seen_succ, HAD.out, ← HCJ.out]
                    constructor
                    · rintro (h | rfl)
                      · exact .inl h
                      · exact .inr ⟨rfl, rfl, hcp⟩
                    · rintro (h | ⟨_, rfl, _⟩)
                      · exact .inl h
                      · exact .inr rfl⟩
                · go_wp2_with fail
                  go_quiet (fail)
                  go_wp2_with fail
                  go_roundg (gk - 1)
                  case measure => have := HJ.out; omega
                  case rel => exact ⟨j + 1, by go_num, ⟨by have := HJ.out; omega⟩, ⟨pw_below_drewN HB4.out _⟩, (HS4.move rfl).congr fun q => by
                    rw [seen_succ, HAD.out, ← HCJ.out]
                    constructor
                    · exact .inl
                    · rintro (h | ⟨_, rfl, h⟩)
                      · exact h
                      · omega⟩
            | false =>
              go_wp2_with fail
              go_roundg (gk - 1)
              case measure => have := HJ.out; omega
              case rel => exact ⟨j + 1, by go_num, ⟨by have := HJ.out; omega⟩, HB4, HS4.congr fun q => by rw [seen_succ, hadj]; simp⟩
          · have hjn : j = n := by have := HJ.out; omega
            subst hjn
            have hfull : SetB wr bm (fun q => ∃ k' : Nat, q = k' ∧ k' < cs ∧ taken j (adjb l0) col i k' = true) := HS.congr (seen_all HG.out i)
            have hlen : ∀ ty, (Builtin.len_ #[29] ty #[.map (some bm)]).run Try.prog wr = .ok (.int .i64 (((List.range cs).filter fun c => taken j (adjb l0) col i c).length : Nat)) wr := fun ty => SetB.len hfull 29 3 4 Try.underlying29 ty
            obtain ⟨ad', had', hcelli⟩ := cell_of HC.out HCL.out i hlt
            obtain rfl := Option.some.inj had'
            have hcelli := pw_cell_below HB.out hcelli
            rw [← HCI.out] at hcelli
            clear hfull HS
            by_cases hneg : ci < 0
            · rw [filter_full HG.out hlt (by rw [← HCI.out]; exact hneg)] at hlen
              have g1 : decide (ci < 0) = true := by simpa using hneg
              go_wp2_with fail
              go_roundg (go - 1)
              case measure => have := HK.out; omega
              case rel => exact ⟨i + 1, by go_num, ⟨by have := HK.out; omega⟩, HB⟩
            · have g1 : decide (ci < 0) = false := by simpa using hneg
              go_wp2_with fail
              go_roundg (go - 1)
              case measure => have := HK.out; omega
              case rel => exact ⟨i + 1, by go_num, ⟨by have := HK.out; omega⟩, HB⟩
      · go_wp2_with fail
        go_ret
        exact ⟨rfl, HB3.out.trans (HB.out.mono HB3.out.size)⟩
set_option maxRecDepth 100000 in
theorem lifted (os : Os) (started : os.Started) (H : Type) (enc : TypeId × Value → H) :
    ReturnsInHanded {} Try.checked os 4 .any (Rows.regallocProperSpec.pre6 enc Try.prog Try.f4 Rows.regallocProperRow.domain false) (Rows.regallocProperSpec.post enc Try.prog Try.f4 false true false false) := by
  refine returnsInHanded_of_change_sized (C := Try.checked) Facts.own started (by kernel_rfl) Try.func4
    (ChangeSpec.witness6 (enc := enc) (C := Try.checked) false ⟨#[], #[.slice none 0 0, .int .u8 0], []⟩ 8 (by kernel_rfl) (by kernel_rfl) (by kernel_rfl) (by kernel_rfl)) ?_
  intro W base args ds gs before hval0 hW hcnd hsz0 _
  have hval : ∀ (j : Nat) t v, Try.f4.params[j]? = some t → args[j]? = some v → Value.okWide Try.prog W .any base t v := hval0
  have hW' := hW
  obtain ⟨p, q, hA0, hV, rfl, hfz, hnd⟩ := hW
  have hA : DataW.TrodAll enc Try.prog W 0 (fun _ => true) true Try.f4.params.toList args.toList ds p := hA0
  rw [Try.params4] at hA hval
  obtain ⟨v0, vs0, d0, ds0, p0, q0, hargs, rfl, rfl, h0, r0⟩ := trodAll_cons hA
  obtain ⟨v1, vs1, d1, ds1, p1, q1, rfl, rfl, rfl, h1, r1⟩ := trodAll_cons r0
  obtain ⟨rfl, rfl, rfl⟩ := trodAll_nil r1
  obtain rfl : args = #[v0, v1] := by cases args; simp_all
  obtain ⟨rfl, rfl⟩ := trodVars_none hV
  obtain ⟨a0, len0, cap0, rfl⟩ := okWide_slice Try.underlying22 (hval 0 22 v0 rfl rfl)
  obtain ⟨l0, rfl, hc, hr, _⟩ := Opens.arg (Opens.slice Try.underlying22 (by kernel_rfl) (Opens.slice Try.underlying26 (by kernel_rfl) (Opens.int Try.underlying3))) rfl h0
  have lt0 := trod_places h0
  obtain ⟨a1, rfl, rfl, rfl, w1⟩ := open_int Try.underlying5 (hval 1 5 v1 rfl rfl) h1
  clear hA0 hval0 hsz0
  refine (walk a0 cap0 l0 a1 W hr hc w1).mono fun e W' ⟨he, bel⟩ => ?_
  subst he
  exact ⟨_, rfl, _, _, _, [], _, [], hW', trodAll_mk1 (shut_bool Try.underlying4 _), (trodAll_cons_mk (Below.trod Facts.laidOut (by kernel_rfl) (of_decide_eq_true (by kernel_rfl)) h0 bel lt0) (trodAll_cons_mk (shut_int Try.underlying5 w1) trodAll_mk0)), rfl, bel.frame _, fun h => by cases h⟩
theorem inPlace : (Rows.regallocProperRow.inPlace == Try.prog.inPlace 4) = true := by kernel_rfl
theorem unfollowed : (Rows.regallocProperRow.unfollowed == Try.prog.unfollowed 4) = true := by kernel_rfl
theorem recurses : (Rows.regallocProperRow.recurses == Try.prog.recurses 4) = true := by kernel_rfl
theorem named : (Rows.regallocProperRow.named == Try.prog.varsNamed 4) = true := by kernel_rfl
theorem wrapper : Try.f4.isWrapper Try.prog Rows.regallocProperRow.wrapper Rows.regallocProperRow.mainSum := by unfold Func.isWrapper; first | (rw [if_pos (by decide +kernel)]; kernel_rfl) | (rw [if_neg (by decide +kernel)]; exact ⟨rfl, rfl⟩)
theorem joined : joinedFacts Try.prog 4 Try.f4 Rows.regallocProperSpec Rows.regallocProperRow = true :=
  joined_of (by kernel_rfl) Facts.laidOut Facts.mapsRowed (by kernel_rfl) (by kernel_rfl) (by kernel_rfl) Facts.stops (by kernel_rfl) Facts.stopKnobs inPlace unfollowed recurses named (by kernel_rfl) (by kernel_rfl) (by kernel_rfl) (by kernel_rfl) (by kernel_rfl) (by kernel_rfl) (by kernel_rfl) (by kernel_rfl) (by kernel_rfl)
    (by rw [Facts.plainKeys]; rfl) (by kernel_rfl) Facts.stopsHeard Facts.mayEnter (by rw [Facts.liftsFinal]; rfl) (by rw [Facts.make]; rfl) rfl rfl (by kernel_rfl) (by kernel_rfl) (by kernel_rfl)
theorem over : Rows.regallocProperRow.holds Try.pinned (OpenSpec.ofChange Rows.regallocProperSpec) :=
  OpenClaim.holds_of_wide 4 Try.f4 rfl rfl rfl rfl rfl rfl rfl ⟨rfl, rfl, rfl, rfl, rfl⟩ rfl rfl rfl rfl rfl (by kernel_rfl) Try.func4 joined
    (of_decide_eq_true (by kernel_rfl)) wrapper
    (fun os started H enc _ => lifted os started H enc)
theorem proved : Rows.RegallocProperSaid := over
#print axioms proved
end Go.Proofs.Ytljacnpadelilaa.LawProper
namespace Go.Proofs.Ytljacnpadelilaa
/-- The row, under a short name, for the claim. -/
theorem regallocProper_holds : Rows.RegallocProperSaid := LawProper.proved
end Go.Proofs.Ytljacnpadelilaa
