/- RegallocLists: the law returns true for every graph and number of colors, and each argument reads afterwards as before. Conditions: none. -/
import Derived.Test.YtljacnpadelilaaZRows
import Derived.Test.YtljacnpadelilaaLists
import Derived.Test.YtljacnpadelilaaOpen
import Derived.Test.YtljacnpadelilaaFacts
import Derived.OpenShut
import Derived.ChangeOld
import Derived.SizedLaws
import Derived.Deep.DeepMust
namespace Go.Proofs.Ytljacnpadelilaa.LawLists
open Go.RowKit Go.Proofs.YtljacnpadelilaaW.PrintWords Go.Proofs.YtljacnpadelilaaW.PrintLast Go.Proofs.YtljacnpadelilaaW.PrintMore
open Go.ChangeShapes Go.WideShapes Go.ChangeAt
open Go.ChangeMaps (setBlock)
open Col Lists
set_option maxHeartbeats 4000000 in
set_option maxRecDepth 100000 in
theorem walk (A0 : Option Addr) (c0 : Nat) (l0 : List (List Int)) (colors : Int) (w : World) (hr0 : Kd.C (Kd.slice 3 (Kd.int .i64)) w A0 l0.length l0) (hc0 : l0.length ≤ c0) (hwf : (Lit.int .u8 colors).wf = true) :
    Calls Try.prog 6 #[.slice A0 l0.length c0, .int .u8 colors] w fun e w' => e = .returned (.bool true) ∧ Below w.heap.size w w' := by
  have HR := Aside0.mk hr0
  have hm : l0.length ≤ 9223372036854775807 := hr0.2.1
  have hcr : 0 ≤ colors ∧ colors < 256 := by
    simp [Lit.wf, IntKind.min, IntKind.max, IntKind.signed, IntKind.bits] at hwf
    omega
  clear hr0 hwf
  go_enter Try.func6, Try.ntmps6
  go_wp2_with fail
  refine (awake20_calls w).mono ?_
  rintro e w1 ⟨rfl, hB1⟩
  have HB1 := Aside0.mk hB1
  clear hB1
  go_wp2_with fail
  refine (wide_calls A0 c0 l0 w1 (Kd.C_below HR.out HB1.out) hc0 hm).mono ?_
  rintro e w2 ⟨rfl, ⟨m, rfl⟩⟩
  obtain ⟨w2, hw2⟩ : ∃ w2, w2 = w1.drewN m := ⟨_, rfl⟩
  rw [← hw2]
  have HB2 := Aside0.mk (show Below w.heap.size w w2 by rw [hw2]; exact pw_below_drewN HB1.out m)
  clear hw2
  by_cases hwide : wideB l0 = true
  · rw [hwide]
    go_wp2_with fail
    go_ret
    exact ⟨rfl, HB2.out⟩
  · have hwide' : wideB l0 = false := by simpa using hwide
    rw [hwide']
    have HSM := Aside0.mk (wide_small hwide')
    have hlen : l0.length ≤ 24 := (wide_small hwide').1
    clear hwide hwide'
    obtain ⟨n, hn⟩ : ∃ n, n = l0.length := ⟨_, rfl⟩
    have HN := Aside0.mk hn
    have HCOL : Aside0 (∀ (colors : Int) (wr : World), Below w.heap.size w wr → colors ≤ 1000000 → Calls Try.prog 27 #[.slice A0 n c0, .int .i64 colors] wr fun e w' => ∃ v, e = .returned v ∧ Kd.R (Kd.int .i64) 3 w' wr.heap.size (fun _ => True) v (colorL n (adjb l0) colors) ∧ Below wr.heap.size wr w') := ⟨fun colors wr hb hc => by
      subst hn
      exact color_calls A0 c0 l0 colors wr (Kd.C_below HR.out hb) hc0 (by omega) hc⟩
    rw [← hn] at hlen hc0 hm ⊢
    clear hn
    have hmk : ∀ W : World, (Instr.makeSlice 22 (.int .i64 (n : Int)) (.int .i64 (n : Int))).run Try.prog W = .ok (.slice (some ⟨W.heap.size, 0, none⟩) n n) (W.alloc (.cells (madeCells #[.slice none 0 0] n) 26)) := fun W =>
      run_make_row' 22 26 (.slice none 0 0) 24 Try.underlying22 info26 rfl .i64 .i64 n (by omega) (by omega) W
    go_wp2_with fail
    have hR0 := RowsB.start w2 n
    have hW0 : Below w2.heap.size w2 (w2.alloc (.cells (madeCells #[.slice none 0 0] n) 26)) := (Below.refl _ _).alloc (Nat.le_refl _) _
    obtain ⟨W0, hWW⟩ : ∃ W0, W0 = (w2.alloc (.cells (madeCells #[.slice none 0 0] n) 26)) := ⟨_, rfl⟩
    rw [← hWW] at hR0 hW0 ⊢
    obtain ⟨O, hO⟩ : ∃ O, O = w2.heap.size := ⟨_, rfl⟩
    rw [← hO] at hR0 hW0 ⊢
    have HO := Aside0.mk hO
    clear hO hWW hmk
    go_loopg [18] n (fun k x wr => ∃ (i : Nat) (vs : Nat → Value) (xs : Nat → List Int), x = .int .i64 i ∧ Aside0 (i + k = n) ∧ Aside0 (Below O w2 wr) ∧ Aside0 (RowsB wr O n vs xs) ∧ Aside0 (LI l0 n i (l0.getD i []).length xs))
    case atStart => exact ⟨0, _, _, rfl, ⟨by omega⟩, ⟨hW0⟩, ⟨hR0⟩, ⟨LI.start l0 n⟩⟩
    case round =>
      obtain ⟨i, vs, xs, rfl, HK, HB, HRW, HL⟩ := hrel
      by_cases hlt : i < n
      · obtain ⟨go, rfl⟩ : ∃ g : Nat, g = gk := ⟨_, rfl⟩
        obtain ⟨wo, rfl⟩ : ∃ g : World, g = wr := ⟨_, rfl⟩
        obtain ⟨ad, A1, c1, rfl, hc, hc1, HR1⟩ := PRegallocColors.at_L1 HR.out (i : Int) (by omega) (by have := HN.out; omega)
        have HB2' : Aside0 (∀ wr, Below O w2 wr → Below w.heap.size w wr) := ⟨fun wr hb => HB2.out.trans (hb.mono (by have := HB2.out.size; have := HO.out; omega))⟩
        have hc' : wo.cell? (ad.add i) = some (.slice A1 (l0.getD i []).length c1) := by
          have := pw_cell_below (HB2'.out wo HB.out) hc
          simpa [PRegallocColors.rd_L1] using this
        have HC := Aside0.mk hc
        obtain ⟨es, hes⟩ : ∃ es, es = l0.getD i [] := ⟨_, rfl⟩
        rw [← hes] at hc'
        have HE := Aside0.mk hes
        have HR1' : Aside0 ((Kd.int .i64).C w A1 es.length es) := ⟨by rw [hes]; simpa [PRegallocColors.rd_L1] using HR1⟩
        have hel : es.length ≤ 40 := by
          rw [hes, List.getD_eq_getElem?_getD]
          cases hq : l0[i]? with
          | none => simp
          | some r => exact HSM.out.2 r (List.mem_of_getElem? hq)
        rw [← hes] at HL
        clear hes HR1 hc hc1 hR0 hW0
        go_wp2_with fail
        go_loopg [7] es.length (fun k x wr => ∃ (m : Nat) (vs : Nat → Value) (xs : Nat → List Int), x = .int .i64 ((m : Int) - 1) ∧ Aside0 (m = k) ∧ m ≤ es.length ∧ Aside0 (Below O w2 wr) ∧ Aside0 (RowsB wr O n vs xs) ∧ Aside0 (LI l0 n i m xs))
        case atStart => exact ⟨es.length, vs, xs, by go_num, ⟨rfl⟩, Nat.le_refl _, HB, HRW, HL⟩
        case round =>
          clear HL HRW HB hc'
          obtain ⟨m, vs, xs, rfl, HK2, hme, HB, HRW, HL⟩ := hrel
          cases m with
          | succ m =>
            have hc' : wr.cell? (ad.add i) = some (.slice A1 es.length c1) := by
              have := pw_cell_below (HB2'.out wr HB.out) HC.out
              simpa [PRegallocColors.rd_L1, HE.out] using this
            obtain ⟨ae, he, hx⟩ := Kd.at_int HR1'.out (m : Int) (by omega) (by omega)
            obtain rfl := he
            have hx' : wr.cell? (ae.add m) = some (.int .i64 (rd es m)) := by
              have := pw_cell_below (HB2'.out wr HB.out) hx
              simpa using this
            obtain ⟨b, hb⟩ : ∃ b, b = rd es m := ⟨_, rfl⟩
            rw [← hb] at hx'
            have HBE := Aside0.mk hb
            have hci := HRW.out.cell hlt
            obtain ⟨hxl1, hxl2⟩ := HL.out i hlt
            have hlb : ((xs i).length + 2) * 8 ≤ 140737488355328 := by
              have := HE.out ▸ hxl2
              omega
            obtain ⟨ob, hob⟩ : ∃ ob : Obj, ob = .cells #[.int .i64 b, .int .i64 b] 3 := ⟨_, rfl⟩
            have hrow : Kd.R (Kd.int .i64) 3 (wr.alloc ob) (O + 1) (fun _ => True) (vs i) (xs i) := Kd.R_alloc (HRW.out.own i hlt) _
            have hlit : (Kd.int .i64).C (wr.alloc ob) (some ⟨wr.heap.size, 0, none⟩) 2 [b, b] := by
              have : Blk (wr.alloc ob) wr.heap.size (nums .i64 [b, b]) 3 := by rw [hob]; exact Blk.new _ _
              exact this.ints (by simp)
            have hbase : O + 1 ≤ (wr.alloc ob).heap.size := by have := HRW.out.blk.lt; simp; omega
            have HROW := Aside0.mk hrow
            have HLIT := Aside0.mk hlit
            clear hxl1 hxl2 hx hb hrow hlit
            subst hob
            go_wp2_with (at_builtin; go_must (refine Kd.R_append_row (Value.int .i64) 0 (h1 := fun _ => rfl) (w0 := wr.alloc (.cells #[.int .i64 b, .int .i64 b] 3)) (O + 1) rfl (.tmp 43) (.tmp 46) 26 3 (.int .i64 0) 8 rfl Try.underlying26 info3 rfl (by decide) (vs i) (xs i) [b, b] (some ⟨wr.heap.size, 0, none⟩) 2 2 (fun _ => True) rfl (by go_simp) (fun _ _ => trivial) HROW.out HLIT.out (Below.refl _ _) hbase hlb ?_))
            intro v1 w4 hown hbel hgr hat
            have hown : Kd.R (Kd.int .i64) 3 w4 (O + 1) (fun _ => True) v1 (xs i ++ [b, b]) := hown
            have hb4 : Blk w4 O ((List.range n).map vs) 26 := (HRW.out.blk.alloc _).below hbel (Nat.lt_succ_self _)
            have hc4 : w4.cell? ⟨O, i, none⟩ = some (vs i) := by
              rw [hb4.cell, List.getElem?_map, List.getElem?_range hlt]; rfl
            have hf4 : w4.frozen? ⟨O, i, none⟩ = false := hb4.frozen i
            have hstep := HRW.out.step hlt ((Below.refl _ _).alloc (Nat.le_refl _) (.cells #[.int .i64 b, .int .i64 b] 3)) hown hgr (hat.imp id (fun ⟨b', h1, h2⟩ => ⟨b', h1, by simpa using h2⟩))
            have hB5 : Below O w2 (w4.setCell ⟨O, i, none⟩ v1) := ((HB.out.alloc (by have := HRW.out.blk.lt; omega) _).trans (hbel.mono (by omega))).setCell (Nat.le_refl _) _
            obtain ⟨A4, c4, rfl⟩ := Kd.R_slice hown
            obtain ⟨len4, hl4⟩ : ∃ len4, len4 = (xs i ++ [b, b]).length := ⟨_, rfl⟩
            rw [← hl4] at hstep hB5 ⊢
            have HSTEP := Aside0.mk hstep
            have HB5 := Aside0.mk hB5
            have hmm : (m : Int) < es.length := by omega
            have HBE2 : Aside0 (b = (l0.getD i []).getD m 0) := ⟨by
              rw [HBE.out, HE.out]
              simp [rd]⟩
            clear HROW HLIT hat hgr hown hbel hci hb4 hstep hB5 hl4 hlb hbase
            by_cases hbr : 0 ≤ b ∧ b < n
            · obtain ⟨hb0, hbn⟩ := hbr
              obtain ⟨q, rfl⟩ := Int.eq_ofNat_of_zero_le hb0
              have hqn : q < n := by omega
              obtain ⟨ys, hys⟩ : ∃ ys : Nat → List Int, ys = fun c => if c = i then xs i ++ [(q : Int), (q : Int)] else xs c := ⟨_, rfl⟩
              obtain ⟨us, hus⟩ : ∃ us : Nat → Value, us = fun c => if c = i then Value.slice A4 len4 c4 else vs c := ⟨_, rfl⟩
              have HL2 := Aside0.mk (LI.in_ HL.out hlt (by rw [← HE.out]; omega) HBE2.out hqn ys hys)
              have hst : RowsB (w4.setCell ⟨O, i, none⟩ (.slice A4 len4 c4)) O n us ys := by
                rw [hys, hus]
                exact HSTEP.out
              have hcq := hst.cell hqn
              have hylen : ((ys q).length + 1) * 8 ≤ 140737488355328 := by
                obtain ⟨_, h2⟩ := HL.out q hqn
                obtain ⟨_, h3⟩ := HL.out i hlt
                rw [← HE.out] at h2 h3
                have : (ys q).length ≤ 10000 := by
                  rw [hys]
                  dsimp only
                  split
                  · rw [List.length_append]
                    simp only [List.length_cons, List.length_nil]
                    omega
                  · omega
                omega
              have hbase5 : O + 1 ≤ (w4.setCell ⟨O, i, none⟩ (.slice A4 len4 c4)).heap.size := hst.blk.lt
              have HST := Aside0.mk hst
              have HROW := Aside0.mk (hst.own q hqn)
              obtain ⟨vq, hvq⟩ : ∃ vq, vq = us q := ⟨_, rfl⟩
              rw [← hvq] at hcq HROW
              have HVQ := Aside0.mk hvq
              clear hys hus hst hvq HL HSTEP
              go_wp2_with (at_builtin; go_must (refine Kd.R_append (Kd.int .i64) (w0 := w4.setCell ⟨O, i, none⟩ (.slice A4 len4 c4)) (O + 1) rfl (.tmp 62) (.tmp 64) 26 3 (.int .i64 0) 8 rfl Try.underlying26 info3 rfl (by decide) (by omega) vq (ys q) i [.int .i64 i] (fun _ => True) (fun _ => False) rfl (by go_simp) rfl (fun _ hk => hk.elim) (fun _ _ => trivial) HROW.out (Below.refl _ _) hbase5 hylen ?_))
              intro v2 w6 hown hbel hgr hat
              have hb6 : Blk w6 O ((List.range n).map us) 26 := HST.out.blk.below hbel (Nat.lt_succ_self _)
              have hc6 : w6.cell? ⟨O, q, none⟩ = some vq := by
                rw [hb6.cell, List.getElem?_map, List.getElem?_range hqn, HVQ.out]; rfl
              have hf6 : w6.frozen? ⟨O, q, none⟩ = false := hb6.frozen q
              have hstep := HST.out.step hqn (Below.refl _ _) hown (HVQ.out ▸ hgr) ((HVQ.out ▸ hat : v2.ownBlock = (us q).ownBlock ∨ ∃ b, v2.ownBlock = some b ∧ w4.heap.size ≤ b).imp id (fun ⟨b', h1, h2⟩ => ⟨b', h1, by simpa using h2⟩))
              have hB6 : Below O w2 (w6.setCell ⟨O, q, none⟩ v2) := (HB5.out.trans (hbel.mono (by omega))).setCell (Nat.le_refl _) _
              obtain ⟨A6, c6, rfl⟩ := Kd.R_slice hown
              have HSTEP := Aside0.mk hstep
              have HB6 := Aside0.mk hB6
              obtain ⟨len6, hl6⟩ : ∃ len6, len6 = (ys q ++ [(i : Int)]).length := ⟨_, rfl⟩
              rw [← hl6] at HSTEP HB6 ⊢
              clear HROW hat hgr hown hbel hb6 hstep hB6 hl6 hylen hbase5 hcq hc4 hf4
              go_wp2_with fail
              go_roundg (gk - 1)
              case measure => have := HK2.out; omega
              case rel => exact ⟨m, _, _, by go_num, ⟨by have := HK2.out; omega⟩, by omega, HB6, HSTEP, HL2⟩
            · have hg : (decide (0 ≤ b) = false) ∨ (decide (0 ≤ b) = true ∧ decide (b < n) = false) := by
                by_cases h : 0 ≤ b
                · exact .inr ⟨by simpa using h, by simp; omega⟩
                · exact .inl (by simpa using h)
              have HL2 := Aside0.mk (LI.out HL.out (by rw [← HE.out]; omega) HBE2.out hbr)
              clear hbr
              rcases hg with g1 | ⟨g1, g2⟩
              · go_wp2_with fail
                go_roundg (gk - 1)
                case measure => have := HK2.out; omega
                case rel => exact ⟨m, _, _, by go_num, ⟨by have := HK2.out; omega⟩, by omega, HB5, HSTEP, HL2⟩
              · go_wp2_with fail
                go_roundg (gk - 1)
                case measure => have := HK2.out; omega
                case rel => exact ⟨m, _, _, by go_num, ⟨by have := HK2.out; omega⟩, by omega, HB5, HSTEP, HL2⟩
          | zero =>
            have HL2 := Aside0.mk (LI.row HL.out (by rw [← HE.out]; exact hel))
            go_wp2_with fail
            go_roundg (go - 1)
            case measure => have := HK.out; omega
            case rel => exact ⟨i + 1, vs, xs, by go_num, ⟨by have := HK.out; omega⟩, HB, HRW, HL2⟩
      · have hin : i = n := by have := HK.out; omega
        subst hin
        have hdone : adjb ((List.range i).map xs) = adjb l0 := by
          have := HL.out
          rw [HN.out] at this ⊢
          exact this.done
        have HD := Aside0.mk hdone
        have hreads := HRW.out.reads (by omega)
        have HRD := Aside0.mk hreads
        have hOs : O ≤ wr.heap.size := by have := HRW.out.blk.lt; omega
        obtain ⟨kk, hkk⟩ : ∃ kk, kk = colors % 31 := ⟨_, rfl⟩
        have hk0 : 0 ≤ kk ∧ kk < 31 := by omega
        have HBW : Aside0 (Below w.heap.size w wr) := ⟨HB2.out.trans (HB.out.mono (by have := HB2.out.size; have := HO.out; omega))⟩
        clear hreads hdone hR0 hW0 HL
        go_wp2_with fail
        refine (HCOL.out (colors % 31) wr HBW.out (by omega)).mono ?_
        rintro e w4 ⟨v, rfl, hR, hB4⟩
        obtain ⟨Av, cv, rfl⟩ := Kd.R_slice hR
        have HR4 := Aside0.mk hR
        have HB4 := Aside0.mk hB4
        clear hR hB4
        go_wp2_with fail
        have hlen2 : ((List.range i).map xs).length = i := by rw [List.length_map, List.length_range]
        have hcall := color_calls (some ⟨O, 0, none⟩) i ((List.range i).map xs) (colors % 31) w4 (by rw [hlen2]; exact Kd.C_below HRD.out HB4.out) (by rw [hlen2]; exact Nat.le_refl _) (by rw [hlen2]; omega) (by omega)
        rw [hlen2, HD.out] at hcall
        refine hcall.mono ?_
        clear hcall
        rintro e w5 ⟨v, rfl, hR, hB5⟩
        obtain ⟨Av2, cv2, rfl⟩ := Kd.R_slice hR
        have HR5 := Aside0.mk hR
        have HC4 := Aside0.mk (Kd.C_below (Kd.R_reads' HR4.out).2.2 hB5)
        have HB5 := Aside0.mk ((HBW.out.trans (HB4.out.mono HBW.out.size)).trans (hB5.mono (by have := HB4.out.size; have := HBW.out.size; omega)))
        clear hR hB5
        go_wp2_with fail
        refine (ints_calls Av cv _ Av2 cv2 _ w5 HC4.out (Kd.R_reads' HR4.out).2.1 (Kd.R_reads' HR5.out).2.2 (Kd.R_reads' HR5.out).2.1 (by rw [length_colorL]; omega)).mono ?_
        rintro e w6 ⟨rfl, ⟨m, rfl⟩⟩
        rw [decide_eq_true rfl]
        go_wp2_with fail
        go_ret
        exact ⟨rfl, pw_below_drewN HB5.out m⟩
set_option maxRecDepth 100000 in
theorem lifted (os : Os) (started : os.Started) (H : Type) (enc : TypeId × Value → H) :
    ReturnsInHanded {} Try.checked os 6 .any (Rows.regallocListsSpec.pre6 enc Try.prog Try.f6 Rows.regallocListsRow.domain false) (Rows.regallocListsSpec.post enc Try.prog Try.f6 false true false false) := by
  refine returnsInHanded_of_change_sized (C := Try.checked) Facts.own started (by kernel_rfl) Try.func6
    (ChangeSpec.witness6 (enc := enc) (C := Try.checked) false ⟨#[], #[.slice none 0 0, .int .u8 0], []⟩ 8 (by kernel_rfl) (by kernel_rfl) (by kernel_rfl) (by kernel_rfl)) ?_
  intro W base args ds gs before hval0 hW hcnd hsz0 _
  have hval : ∀ (j : Nat) t v, Try.f6.params[j]? = some t → args[j]? = some v → Value.okWide Try.prog W .any base t v := hval0
  have hW' := hW
  obtain ⟨p, q, hA0, hV, rfl, hfz, hnd⟩ := hW
  have hA : DataW.TrodAll enc Try.prog W 0 (fun _ => true) true Try.f6.params.toList args.toList ds p := hA0
  rw [Try.params6] at hA hval
  obtain ⟨v0, vs0, d0, ds0, p0, q0, hargs, rfl, rfl, h0, r0⟩ := trodAll_cons hA
  obtain ⟨v1, vs1, d1, ds1, p1, q1, rfl, rfl, rfl, h1, r1⟩ := trodAll_cons r0
  obtain ⟨rfl, rfl, rfl⟩ := trodAll_nil r1
  obtain rfl : args = #[v0, v1] := by cases args; simp_all
  obtain ⟨rfl, rfl⟩ := trodVars_none hV
  obtain ⟨a0, len0, cap0, rfl⟩ := okWide_slice Try.underlying22 (hval 0 22 v0 rfl rfl)
  obtain ⟨l0, rfl, hc, hr, _⟩ := Opens.arg (Opens.slice Try.underlying22 (by kernel_rfl) (Opens.slice Try.underlying26 (by kernel_rfl) (Opens.int Try.underlying3))) rfl h0
  have lt0 := trod_places h0
  obtain ⟨a1, rfl, rfl, rfl, w1⟩ := open_int Try.underlying5 (hval 1 5 v1 rfl rfl) h1
  clear hA0 hval0 hsz0
  refine (walk a0 cap0 l0 a1 W hr hc w1).mono fun e W' ⟨he, bel⟩ => ?_
  subst he
  exact ⟨_, rfl, _, _, _, [], _, [], hW', trodAll_mk1 (shut_bool Try.underlying4 _), (trodAll_cons_mk (Below.trod Facts.laidOut (by kernel_rfl) (of_decide_eq_true (by kernel_rfl)) h0 bel lt0) (trodAll_cons_mk (shut_int Try.underlying5 w1) trodAll_mk0)), rfl, bel.frame _, fun h => by cases h⟩
theorem inPlace : (Rows.regallocListsRow.inPlace == Try.prog.inPlace 6) = true := by kernel_rfl
theorem unfollowed : (Rows.regallocListsRow.unfollowed == Try.prog.unfollowed 6) = true := by kernel_rfl
theorem recurses : (Rows.regallocListsRow.recurses == Try.prog.recurses 6) = true := by kernel_rfl
theorem named : (Rows.regallocListsRow.named == Try.prog.varsNamed 6) = true := by kernel_rfl
theorem wrapper : Try.f6.isWrapper Try.prog Rows.regallocListsRow.wrapper Rows.regallocListsRow.mainSum := by unfold Func.isWrapper; first | (rw [if_pos (by decide +kernel)]; kernel_rfl) | (rw [if_neg (by decide +kernel)]; exact ⟨rfl, rfl⟩)
theorem joined : joinedFacts Try.prog 6 Try.f6 Rows.regallocListsSpec Rows.regallocListsRow = true :=
  joined_of (by kernel_rfl) Facts.laidOut Facts.mapsRowed (by kernel_rfl) (by kernel_rfl) (by kernel_rfl) Facts.stops (by kernel_rfl) Facts.stopKnobs inPlace unfollowed recurses named (by kernel_rfl) (by kernel_rfl) (by kernel_rfl) (by kernel_rfl) (by kernel_rfl) (by kernel_rfl) (by kernel_rfl) (by kernel_rfl) (by kernel_rfl)
    (by rw [Facts.plainKeys]; rfl) (by kernel_rfl) Facts.stopsHeard Facts.mayEnter (by rw [Facts.liftsFinal]; rfl) (by rw [Facts.make]; rfl) rfl rfl (by kernel_rfl) (by kernel_rfl) (by kernel_rfl)
theorem over : Rows.regallocListsRow.holds Try.pinned (OpenSpec.ofChange Rows.regallocListsSpec) :=
  OpenClaim.holds_of_wide 6 Try.f6 rfl rfl rfl rfl rfl rfl rfl ⟨rfl, rfl, rfl, rfl, rfl⟩ rfl rfl rfl rfl rfl (by kernel_rfl) Try.func6 joined
    (of_decide_eq_true (by kernel_rfl)) wrapper
    (fun os started H enc _ => lifted os started H enc)
theorem proved : Rows.RegallocListsSaid := over
#print axioms proved
end Go.Proofs.Ytljacnpadelilaa.LawLists
namespace Go.Proofs.Ytljacnpadelilaa
/-- The row, under a short name, for the claim. -/
theorem regallocLists_holds : Rows.RegallocListsSaid := LawLists.proved
end Go.Proofs.Ytljacnpadelilaa
