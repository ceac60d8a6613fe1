/- Walk of TravelArrives. -/
import Derived.Test.YtejbkjndipineaaGreatDoorRec
import Derived.Test.YtejbkjndipineaaGreatDoorLaw
import Derived.Test.YtejbkjndipineaaGreatDoorRuns
namespace Go.Proofs.YtejbkjndipineaaGreatDoor
open Go Go.RowKit PR
set_option linter.unusedVariables false
set_option linter.unusedSimpArgs false
set_option maxHeartbeats 400000
set_option maxRecDepth 100000

set_option maxHeartbeats 4000000 in
theorem arrives_calls (t : Table) (at_ : Int) (fill : List Int) (flags : List Bool) (v0 v1 v2 v3 v4 v5 v6 vf vb : Value) (B : Nat → Prop) (w : World) (h0 : Sl (eInt .i64) w B v0 t.parents) (h1 : Sl (eInt .i64) w B v1 t.kinds) (h2 : Sl (eInt .i64) w B v2 t.texts) (h3 : Sl (eInt .i64) w B v3 t.rules) (h4 : Sl (eInt .i64) w B v4 t.flags) (h5 : Sl (eInt .i64) w B v5 t.keeps) (h6 : Sl (eInt .i64) w B v6 t.comps)
    (hf : Sl (eInt .i64) w B vf fill) (hb : Sl eBool w B vb flags) (hg : GV w) :
    Calls Tryz.prog 3 #[.agg #[v0, v1, v2, v3, v4, v5, v6], .int .i64 at_, vf, vb] w fun e w' => e = .returned (.bool true) ∧ Below w.heap.size w w' := by
  obtain ⟨A0, c0, rfl, -, -, -⟩ := h0.form
  obtain ⟨A1, c1, rfl, -, -, -⟩ := h1.form
  obtain ⟨A2, c2, rfl, -, -, -⟩ := h2.form
  obtain ⟨A3, c3, rfl, -, -, -⟩ := h3.form
  obtain ⟨A4, c4, rfl, -, -, -⟩ := h4.form
  obtain ⟨A5, c5, rfl, -, -, -⟩ := h5.form
  obtain ⟨A6, c6, rfl, -, -, -⟩ := h6.form
  obtain ⟨Af, cf, rfl, -, -, -⟩ := hf.form
  obtain ⟨Ab, cb, rfl, hcb, hmb, -⟩ := hb.form
  unfold maxLen at hmb
  have hal : Below w.heap.size w (w.alloc (.cells #[.slice A0 t.parents.length c0, .slice A1 t.kinds.length c1, .slice A2 t.texts.length c2, .slice A3 t.rules.length c3, .slice A4 t.flags.length c4, .slice A5 t.keeps.length c5, .slice A6 t.comps.length c6] 24)) := below_alloc (Below.refl _ _) (Nat.le_refl _) _
  have HR := Lib.hid (records_calls t _ _ _ _ _ _ _ B _ (h0.below hal) (h1.below hal) (h2.below hal) (h3.below hal) (h4.below hal) (h5.below hal) (h6.below hal))
  have HAL := Lib.hid hal
  have HF := Lib.hid hf
  have HG := Lib.hid hg
  have HFS := Lib.hid (hb.take_ (min flags.length 6) (Nat.min_le_left _ _))
  clear hal h0 h1 h2 h3 h4 h5 h6 hf hg hb
  go_enter Tryz.func3, Tryz.ntmps3
  go_wp2_with fail
  refine HR.out.mono ?_
  rintro e w1 ⟨r, rs, rfl, hr, hm, hb1⟩
  have hB1 := below_then HAL.out (Nat.le_refl _) hb1
  obtain ⟨Ar, cr, rfl, -, -, -⟩ := hr.form
  have HM := Lib.hid hm
  have hlen := hm.len
  have hTo := Lib.hid (to_calls rs at_ fill _ _ (fun _ => True) w1 (hr.mono (fun _ _ => trivial)) ((HF.out.below hB1).mono (fun _ _ => trivial)) hm.small)
  have HR1 := Lib.hid (hr.mono (B' := fun _ => True) (fun _ _ => trivial))
  have hsz := toS_size hm at_ fill
  have HSZ := Lib.hid hsz
  clear hm HR HAL hb1 hr hsz
  have hfs := (HFS.out.below hB1).mono (B' := fun _ => True) (fun _ _ => trivial)
  have e7 : min flags.length 6 = (flags.take (min flags.length 6)).length := by rw [List.length_take]; omega
  have e6 : (min ((flags.length : Nat) : Int) 6).toNat = (flags.take (min flags.length 6)).length := by rw [List.length_take]; omega
  generalize flags.take (min flags.length 6) = fl at *
  rw [e7] at hfs
  clear e7
  have E6 := Lib.hid e6
  clear e6 HFS
  have HFS1 := Lib.hid hfs
  clear hfs
  go_wp2_with fail
  rw [E6.out]
  refine hTo.out.mono ?_
  rintro e w2 ⟨rfl, hb2⟩
  have hB2 := below_then hB1 (Nat.le_refl _) hb2
  have HR2 := Lib.hid (HR1.out.below hb2)
  have HFS2 := Lib.hid (HFS1.out.below hb2)
  have hL := arrives_law HM.out at_ fill fl
  have HGo := Lib.hid (go_calls rs (toS rs at_ fill) fl _ _ _ w2 HR2.out HFS2.out HSZ.out HM.out.sg (by have := HM.out.len; omega) (HG.out.below hB2))
  generalize toS rs at_ fill = s at *
  have HL := Lib.hid hL
  clear hL hb2 HR1 HFS1 hTo
  go_wp2_with fail
  refine HGo.out.mono ?_
  rintro e w3 ⟨p, q, c, r, rfl, hp, hq, hc, hr, hb3⟩
  have HB23 := Lib.hid hb3
  obtain ⟨Ap, cp, rfl, -, -, -⟩ := hp.form
  obtain ⟨Aq, cq, rfl, -, -, -⟩ := hq.form
  obtain ⟨Ac, cc, rfl, -, hmc, -⟩ := hc.form
  obtain ⟨Ar', cr', rfl, -, -, -⟩ := hr.form
  have hB3 := below_then hB2 (Nat.le_refl _) hb3
  generalize hT : travelS rs s fl = T at *
  have HT := Lib.hid hT
  clear hT
  obtain ⟨pl, er⟩ := T
  simp only at hp hq hc hr hmc ⊢
  have hal := below_alloc (Below.refl w3.heap.size w3) (Nat.le_refl _) (.cells #[.slice Ap pl.url.path.length cp, .slice Aq pl.url.query.length cq, .int .i64 pl.id, .slice Ac pl.chain.length cc, .slice Ar' pl.params.length cr', .int .i64 pl.hops] 34)
  have hbk := Blk.new w3 [.slice Ap pl.url.path.length cp, .slice Aq pl.url.query.length cq, .int .i64 pl.id, .slice Ac pl.chain.length cc, .slice Ar' pl.params.length cr', .int .i64 pl.hops] 34
  change Blk (w3.alloc (.cells #[.slice Ap pl.url.path.length cp, .slice Aq pl.url.query.length cq, .int .i64 pl.id, .slice Ac pl.chain.length cc, .slice Ar' pl.params.length cr', .int .i64 pl.hops] 34)) _ _ _ at hbk
  go_upto_if 41 with fail
  change Code.wp _ _ _ _ (w3.alloc (.cells #[.slice Ap pl.url.path.length cp, .slice Aq pl.url.query.length cq, .int .i64 pl.id, .slice Ac pl.chain.length cc, .slice Ar' pl.params.length cr', .int .i64 pl.hops] 34))
  generalize w3.alloc (.cells #[.slice Ap pl.url.path.length cp, .slice Aq pl.url.query.length cq, .int .i64 pl.id, .slice Ac pl.chain.length cc, .slice Ar' pl.params.length cr', .int .i64 pl.hops] 34) = w4 at *
  have hB4 := below_then hB3 (Nat.le_refl _) hal
  have HP := Lib.hid (And.intro (hp.below hal) (And.intro (hq.below hal) (And.intro (hc.below hal) (hr.below hal))))
  have hR4 := (HR2.out.below HB23.out).below hal
  have hF4 := (HFS2.out.below HB23.out).below hal
  have HRF := Lib.hid (And.intro hR4 hF4)
  have hpb := hbk.lt
  have HBK := Lib.hid hbk
  generalize w3.heap.size = pb at *
  clear hp hq hc hr hR4 hF4 hal hbk hb3 HGo
  by_cases he : er = 0
  · subst he
    obtain ⟨hch, hpass, hh0, hh5, hps, hcl, hgo2, hprint⟩ := HL.out.2 rfl
    simp only at hch hpass hh0 hh5 hps hcl hgo2 hprint
    have HCH := Lib.hid hch
    have HPASS := Lib.hid hpass
    have HPS := Lib.hid hps
    have HGO2 := Lib.hid hgo2
    have HPRINT := Lib.hid hprint
    have hrl := HM.out.len
    unfold maxLen at hmc
    have k3 := HBK.out.cell 3
    simp only [List.getElem?_cons_zero, List.getElem?_cons_succ] at k3
    have HC4 := Lib.hid HP.out.2.2.1
    clear hch hpass hps hgo2 hprint HL HSZ
    go_wp2
    go_loopw [14, 63] (fun v i wr => ∃ (k : Nat) (acc : List Rule), i = .int .i64 k ∧ k ≤ pl.chain.length ∧ acc.length ≤ k ∧ Ow eRule 44 wr (fun _ => False) v acc ∧ (∀ g, v.ownBlock = some g → w4.heap.size ≤ g) ∧ Below w4.heap.size w4 wr ∧ Hid (acc ++ (pl.chain.drop k).map (ruleAt rs) = pl.chain.map (ruleAt rs))) (fun _ i _ => pl.chain.length - (intOf i).toNat)
    case atStart => exact ⟨0, [], rfl, by omega, by simp, Ow.nil _ _ _ _, by simp [Value.ownBlock], Below.refl _ _, Lib.hid rfl⟩
    case round =>
      obtain ⟨k, acc, rfl, hk, hac, hown, hgb, hB, hD⟩ := hrel
      obtain ⟨A0', cap0, rfl, hc0, hm0⟩ := hown.form
      unfold maxLen at hm0
      by_cases hlt : k < pl.chain.length
      · obtain ⟨b, off, rfl, -, -, c⟩ := HC4.out.int_at k hlt
        replace c := below_cell hB c
        have hx := HCH.out pl.chain[k] (List.getElem_mem hlt)
        have hD' := hD.out
        rw [List.drop_eq_getElem_cons hlt, List.map_cons] at hD'
        generalize pl.chain[k] = x at *
        obtain ⟨m, rfl⟩ := Int.eq_ofNat_of_zero_le hx.1
        have hm : m < rs.length := by omega
        rw [ruleAt_eq rs m hm] at hD'
        obtain ⟨b2, off2, sv, rfl, -, -, -, -, -, -, -, -, c5', c6', c7', -, hto⟩ := HRF.out.1.record_at m hm
        replace c5' := below_cell hB c5'
        replace c6' := below_cell hB c6'
        replace c7' := below_cell hB c7'
        have d1 : decide ((m : Int) < 0) = false := decide_eq_false (by omega)
        have d2 : decide ((rs.length : Int) ≤ (m : Int)) = false := decide_eq_false (by omega)
        have d2' : decide (rs.length ≤ m) = false := decide_eq_false (by omega)
        generalize rs[m].rule = ru at *
        have HD := Lib.hid (show (acc ++ [ru]) ++ (pl.chain.drop (k + 1)).map (ruleAt rs) = pl.chain.map (ruleAt rs) by rw [← hD']; simp)
        obtain ⟨kk, ff, tt⟩ := ru
        simp only at c5' c6' c7' hto
        clear hD hD' hx
        go_wp2_with (at_builtin; refine wp_app eRule rfl (.tmp 75) (.tmp 81) 41 44 rfl Tryz.underlying41 (.agg #[.int .i64 0, .int .i64 0, .string ⟨#[]⟩]) 32 infoRule rfl (by decide) (fun _ => False) _ acc rfl ?own _ [⟨kk, ff, tt⟩] rfl ?src ?c3 ?c4 ?_)
        case own => exact (hown.below (below_alloc (Below.refl _ _) (Nat.le_refl _) _)).plain (fun _ c => c.1)
        case src => exact one_new eRule wr (fun _ => False) ⟨kk, ff, tt⟩ _ 44 (eRule_mk _ _ _ hto) (fun b c => False.elim c)
        case c3 => unfold maxLen; show acc.length + 1 ≤ _; omega
        case c4 => show (acc.length + 1) * 32 ≤ _; omega
        intro v' w' hown' hg' hv'
        have hgb' := app_own (B := w4.heap.size) (w2 := wr) (o := .cells #[.int .i64 kk, .int .i64 ff, .string tt] 44) (by simpa using hv') hgb (by have := hB.size; omega)
        have hBn := app_below hB (Nat.le_refl _) hg' hgb
        clear hown hv' hg'
        go_wp2
        go_roundw
        case rel => exact ⟨k + 1, acc ++ [⟨kk, ff, tt⟩], by go_num, by omega, by simp; omega, hown', hgb', hBn, HD⟩
        case measure => simp [intOf]; omega
      · have hD' := hD.out
        rw [List.drop_eq_nil_of_le (by omega), List.map_nil, List.append_nil] at hD'
        have hpa : (allS fl 0 acc).1 = 0 := by rw [hD']; exact HPASS.out
        have HPA := Lib.hid hpa
        obtain ⟨wl, rfl⟩ : ∃ wl : World, wl = wr := ⟨_, rfl⟩
        have hBl := below_then hB4 (Nat.le_refl _) hB
        have HAll := Lib.hid (all_calls acc fl _ _ (fun _ => True) wl (hown.sl (fun _ c _ => False.elim c) (fun _ _ => trivial)) (HRF.out.2.below hB))
        have HBK5 := Lib.hid (HBK.out.below hB hpb)
        have HP5 := Lib.hid (And.intro (HP.out.1.below hB) (And.intro (HP.out.2.1.below hB) (HP.out.2.2.2.below hB)))
        have HRF5 := Lib.hid (And.intro (HRF.out.1.below hB) (HRF.out.2.below hB))
        have hzl : pb < wl.heap.size := Nat.lt_of_lt_of_le hpb hB.size
        clear hD hD' hpa hown hgb hB k3 HPASS HRF HP HC4 HBK
        go_wp2_with fail
        refine HAll.out.mono ?_
        rintro e w5 ⟨rfl, hb5⟩
        rw [HPA.out]
        generalize (allS fl 0 acc).2.1 = toN at *
        generalize (allS fl 0 acc).2.2 = an at *
        have hB5 := below_then hBl (Nat.le_refl _) hb5
        have HBK6 := Lib.hid (HBK5.out.below hb5 hzl)
        have HP6 := Lib.hid (And.intro (HP5.out.1.below hb5) (And.intro (HP5.out.2.1.below hb5) (HP5.out.2.2.below hb5)))
        have HRF6 := Lib.hid (And.intro (HRF5.out.1.below hb5) (HRF5.out.2.below hb5))
        have hz5 : pb < w5.heap.size := Nat.lt_of_lt_of_le hzl hb5.size
        have HPr := Lib.hid (print_calls pl.url _ _ _ w5 HP6.out.1 HP6.out.2.1)
        have j0 := HBK6.out.cell 0
        have j1 := HBK6.out.cell 1
        simp only [List.getElem?_cons_zero, List.getElem?_cons_succ] at j0 j1
        clear hb5 HAll HBK5 HP5 HRF5
        go_wp2_with fail
        refine HPr.out.mono ?_
        rintro e w6 ⟨rfl, hb6⟩
        have hB6 := below_then hB5 (Nat.le_refl _) hb6
        have hGo2 := go_calls rs (printS pl.url) fl _ _ _ w6 (HRF6.out.1.below hb6) (HRF6.out.2.below hb6) HPS.out HM.out.sg (by omega) (HG.out.below hB6)
        rw [HGO2.out] at hGo2
        have HGo2 := Lib.hid hGo2
        have HBK7 := Lib.hid (HBK6.out.below hb6 hz5)
        have HP7 := Lib.hid (And.intro (HP6.out.1.below hb6) (And.intro (HP6.out.2.1.below hb6) (HP6.out.2.2.below hb6)))
        have hz6 : pb < w6.heap.size := Nat.lt_of_lt_of_le hz5 hb6.size
        clear hGo2 hb6 j0 j1 HPr HBK6 HP6 HRF6 HGO2 HPS
        generalize hs2 : printS pl.url = s2 at *
        have HS2 := Lib.hid hs2
        clear hs2
        go_wp2_with fail
        refine HGo2.out.mono ?_
        rintro e w7 ⟨p2, q2, c2, r2, rfl, hp2, hq2, hc2, hr2, hb7⟩
        simp only at hp2 hq2 hc2 hr2 ⊢
        obtain ⟨Ap2, cp2, rfl, -, -, -⟩ := hp2.form
        obtain ⟨Aq2, cq2, rfl, -, -, -⟩ := hq2.form
        obtain ⟨Ac2, cc2, rfl, -, -, -⟩ := hc2.form
        obtain ⟨Ar2, cr2, rfl, -, -, -⟩ := hr2.form
        have hB7 := below_then hB6 (Nat.le_refl _) hb7
        have hal := below_alloc (Below.refl w7.heap.size w7) (Nat.le_refl _) (.cells #[.slice Ap2 pl.url.path.length cp2, .slice Aq2 pl.url.query.length cq2, .int .i64 pl.id, .slice Ac2 pl.chain.length cc2, .slice Ar2 pl.params.length cr2, .int .i64 0] 34)
        have hbk2 := Blk.new w7 [.slice Ap2 pl.url.path.length cp2, .slice Aq2 pl.url.query.length cq2, .int .i64 pl.id, .slice Ac2 pl.chain.length cc2, .slice Ar2 pl.params.length cr2, .int .i64 0] 34
        change Blk (w7.alloc (.cells #[.slice Ap2 pl.url.path.length cp2, .slice Aq2 pl.url.query.length cq2, .int .i64 pl.id, .slice Ac2 pl.chain.length cc2, .slice Ar2 pl.params.length cr2, .int .i64 0] 34)) _ _ _ at hbk2
        go_upto_region 17 with fail
        change Code.wp _ _ _ _ (w7.alloc (.cells #[.slice Ap2 pl.url.path.length cp2, .slice Aq2 pl.url.query.length cq2, .int .i64 pl.id, .slice Ac2 pl.chain.length cc2, .slice Ar2 pl.params.length cr2, .int .i64 0] 34))
        generalize w7.alloc (.cells #[.slice Ap2 pl.url.path.length cp2, .slice Aq2 pl.url.query.length cq2, .int .i64 pl.id, .slice Ac2 pl.chain.length cc2, .slice Ar2 pl.params.length cr2, .int .i64 0] 34) = w8 at *
        have hB8 := below_then hB7 (Nat.le_refl _) hal
        have hz7 : pb < w7.heap.size := Nat.lt_of_lt_of_le hz6 hb7.size
        have hbk1 := (HBK7.out.below hb7 hz6).below hal hz7
        have HPQ8 := Lib.hid (And.intro ((HP7.out.1.below hb7).below hal) ((HP7.out.2.1.below hb7).below hal))
        have HSm := Lib.hid (samePair_calls pl.params pl.params _ _ (fun _ => True) w8 ((hr2.below hal).mono (fun _ _ => trivial)) ((((HP7.out.2.2.below hb7).below hal)).mono (fun _ _ => trivial)))
        have m0 := hbk1.cell 0
        have m1 := hbk1.cell 1
        have m2 := hbk1.cell 2
        have m4 := hbk1.cell 4
        have m5 := hbk1.cell 5
        have n2 := hbk2.cell 2
        have n4 := hbk2.cell 4
        have n5 := hbk2.cell 5
        simp only [List.getElem?_cons_zero, List.getElem?_cons_succ] at m0 m1 m2 m4 m5 n2 n4 n5
        have d1 : decide (pl.hops < 0) = false := decide_eq_false (by omega)
        have d2 : decide ((5 : Int) < pl.hops) = false := decide_eq_false (by omega)
        have d3 : (pl.id != pl.id) = false := bne_self_eq_false _
        have HBK8 := Lib.hid hbk1
        clear hp2 hq2 hc2 hr2 hb7 hal hbk1 hbk2 HBK7 HP7 HGo2
        go_wp2_with fail
        refine HSm.out.mono ?_
        rintro e w9 ⟨rfl, hb9⟩
        have hB9 := below_then hB8 (Nat.le_refl _) hb9
        simp only [decide_true]
        have hbk9 := HBK8.out.below hb9 HBK8.out.lt
        have i0 := hbk9.cell 0
        have i1 := hbk9.cell 1
        have i5 := hbk9.cell 5
        simp only [List.getElem?_cons_zero, List.getElem?_cons_succ] at i0 i1 i5
        have HPr9 := Lib.hid (print_calls pl.url _ _ _ w9 (HPQ8.out.1.below hb9) (HPQ8.out.2.below hb9))
        clear hb9 hbk9 m0 m1 m2 m4 m5 n2 n4 n5 HSm
        by_cases hh : 0 < pl.hops
        · have d4 : decide (0 < pl.hops) = true := decide_eq_true hh
          clear hh HPRINT
          go_wp2_with fail
          refine (runs_calls w9 (HG.out.below hB9)).mono ?_
          rintro e w10 ⟨rfl, hb10⟩
          have hB10 := below_then hB9 (Nat.le_refl _) hb10
          go_wp2
          go_ret
          exact ⟨rfl, hB10⟩
        · have d4 : decide (0 < pl.hops) = false := decide_eq_false hh
          have hps := HPRINT.out (by omega)
          rw [HS2.out, hps] at HPr9
          clear hh hps
          have qs : (s.toList == s.toList) = true := by simp
          go_wp2_with fail
          refine HPr9.out.mono ?_
          rintro e w10 ⟨rfl, hb10⟩
          have hB10 := below_then hB9 (Nat.le_refl _) hb10
          clear hb10
          go_wp2_with fail
          refine (runs_calls w10 (HG.out.below hB10)).mono ?_
          rintro e w11 ⟨rfl, hb11⟩
          have hB11 := below_then hB10 (Nat.le_refl _) hb11
          go_wp2
          go_ret
          exact ⟨rfl, hB11⟩
  · obtain ⟨hz, h234⟩ := HL.out.1 he
    simp only at hz h234
    obtain ⟨hp, hq, hc, hr⟩ := HP.out
    have HSame := Lib.hid (lawSame_calls w4 pl _ _ _ _ _ hz hp hq hc hr)
    have k0 := HBK.out.cell 0
    have k1 := HBK.out.cell 1
    have k2 := HBK.out.cell 2
    have k3 := HBK.out.cell 3
    have k4 := HBK.out.cell 4
    have k5 := HBK.out.cell 5
    simp only [List.getElem?_cons_zero, List.getElem?_cons_succ] at k0 k1 k2 k3 k4 k5
    clear hp hq hc hr hz he
    rcases h234 with rfl | rfl | rfl
    all_goals
      go_wp2_with fail
      refine HSame.out.mono ?_
      rintro e w5 ⟨rfl, hb5⟩
      have hB5 := below_then hB4 (Nat.le_refl _) hb5
      go_wp2_with fail
      refine (runs_calls w5 (HG.out.below hB5)).mono ?_
      rintro e w6 ⟨rfl, hb6⟩
      have hB6 := below_then hB5 (Nat.le_refl _) hb6
      go_wp2
      go_ret
      exact ⟨rfl, hB6⟩
end Go.Proofs.YtejbkjndipineaaGreatDoor
