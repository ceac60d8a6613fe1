/- Walk of porticokeep's Table.Records. -/
import Derived.Test.YtejbkjndipineaaGreatDoorRec1
namespace Go.Proofs.YtejbkjndipineaaGreatDoor
open Go Go.RowKit PR
set_option linter.unusedVariables false
set_option linter.unusedSimpArgs false
set_option maxHeartbeats 400000
set_option maxRecDepth 100000

set_option maxHeartbeats 40000000 in
theorem records_calls (t : Table) (v0 v1 v2 v3 v4 v5 v6 : Value) (B : Nat → Prop) (w : World) (h0 : Sl (eInt .i64) w B v0 t.parents) (h1 : Sl (eInt .i64) w B v1 t.kinds) (h2 : Sl (eInt .i64) w B v2 t.texts) (h3 : Sl (eInt .i64) w B v3 t.rules) (h4 : Sl (eInt .i64) w B v4 t.flags) (h5 : Sl (eInt .i64) w B v5 t.keeps) (h6 : Sl (eInt .i64) w B v6 t.comps) :
    Calls Tryz.prog 4 #[.agg #[v0, v1, v2, v3, v4, v5, v6]] w fun e w' => ∃ r rs, e = .returned r ∧ Sl eRecord w' (fun b => w.heap.size ≤ b) r rs ∧ Made rs ∧ Below w.heap.size w w' := by
  obtain ⟨A0, c0, rfl, hc0, hm0, -⟩ := h0.form
  obtain ⟨A1, c1, rfl, -, -, -⟩ := h1.form
  obtain ⟨A2, c2, rfl, -, -, -⟩ := h2.form
  obtain ⟨A3, c3, rfl, -, -, -⟩ := h3.form
  obtain ⟨A4, c4, rfl, -, -, -⟩ := h4.form
  obtain ⟨A5, c5, rfl, -, -, -⟩ := h5.form
  obtain ⟨A6, c6, rfl, -, -, -⟩ := h6.form
  unfold maxLen at hm0
  go_enter Tryz.func4, Tryz.ntmps4
  go_wp2_with fail
  have HN := Lib.hid (rec_start w (.slice A0 t.parents.length c0) (.slice A1 t.kinds.length c1) (.slice A2 t.texts.length c2) (.slice A3 t.rules.length c3) (.slice A4 t.flags.length c4) (.slice A5 t.keeps.length c5) (.slice A6 t.comps.length c6))
  generalize ((((w.alloc (.cells #[(.slice A0 t.parents.length c0), (.slice A1 t.kinds.length c1), (.slice A2 t.texts.length c2), (.slice A3 t.rules.length c3), (.slice A4 t.flags.length c4), (.slice A5 t.keeps.length c5), (.slice A6 t.comps.length c6)] 24)).alloc (.cells #[.string ⟨#[97]⟩, .string ⟨#[98]⟩, .string ⟨#[105, 116, 101, 109]⟩, .string ⟨#[122]⟩, .string ⟨#[49]⟩, .string ⟨#[108, 105, 115, 116]⟩] 9)).alloc (.cells #[.string ⟨#[104, 111, 109, 101]⟩, .int .i64 (-1), .slice none 0 0, .int .i64 0, .bool false, .int .i64 0, .int .i64 0, .string ⟨#[]⟩] 46)).alloc (.cells #[.int .i64 0] 3)) = W0 at *
  obtain ⟨hB0, hz0, hbt, -, -, -⟩ := HN.out
  go_loopg [4, 5, 6] 7 (fun g ov dv iv wr => ∃ (k : Nat) (rs : List Record) (ds : List Int), k ≤ 7 ∧ g = 7 - k ∧ iv = .int .i64 k ∧ rs.length = k + 1 ∧ ds.length = k + 1 ∧ Hid (Made rs) ∧ Hid (∀ j (h : j < ds.length), 0 ≤ ds[j] ∧ ds[j] ≤ j) ∧
    Hid (Ow eRecord 46 wr (fun b => w.heap.size + 1 + 1 ≤ b ∧ ov.ownBlock ≠ some b ∧ dv.ownBlock ≠ some b) ov rs) ∧ Hid (Ow (eInt .i64) 3 wr (fun _ => False) dv ds) ∧ Hid ((∀ g, ov.ownBlock = some g → w.heap.size + 1 + 1 ≤ g) ∧ (∀ g, dv.ownBlock = some g → w.heap.size + 1 + 1 ≤ g) ∧ ∀ g, ov.ownBlock = some g → dv.ownBlock ≠ some g) ∧ Below (w.heap.size + 1 + 1) W0 wr)
  case atStart =>
    obtain ⟨-, -, -, -, hO, hD⟩ := HN.out
    exact ⟨0, [home], [0], by omega, rfl, rfl, rfl, rfl, Lib.hid home_made, Lib.hid (fun j h => by
      obtain rfl : j = 0 := (by simp at h; omega)
      simp), Lib.hid (hO.mono (fun b c => c.elim) (fun g hg c => c.2.1 hg)), Lib.hid hD, Lib.hid ⟨fun g hg => by simp [Value.ownBlock] at hg; omega, fun g hg => by simp [Value.ownBlock] at hg; omega, fun g hg e => by simp [Value.ownBlock] at hg e; omega⟩, Below.refl _ _⟩
  case round =>
    obtain ⟨k, rs, ds, hk, rfl, rfl, hrl, hdl, HM, HD, HO, HW, HG, hB⟩ := hrel
    obtain ⟨wo, rfl⟩ : ∃ wo : World, wo = wr := ⟨_, rfl⟩
    have hBw : Below w.heap.size w wo := hB0.trans (hB.mono (by omega))
    have hT := hbt.below hB (by omega)
    have t0 := hT.cell 0
    have t1 := hT.cell 1
    have t2 := hT.cell 2
    have t3 := hT.cell 3
    have t4 := hT.cell 4
    have t5 := hT.cell 5
    have t6 := hT.cell 6
    simp only [List.getElem?_cons_zero, List.getElem?_cons_succ] at t0 t1 t2 t3 t4 t5 t6
    obtain ⟨Ao, co, rfl, -, -⟩ := HO.out.form
    obtain ⟨Ad, cd, rfl, -, -⟩ := HW.out.form
    rw [hrl, hdl]
    simp only [hrl, hdl] at HO HW HG
    by_cases hkp : k < t.parents.length
    · have d1 : decide ((k : Int) < (t.parents.length : Int)) = true := decide_eq_true (by omega)
      have d1' : decide (k < t.parents.length) = true := decide_eq_true (by omega)
      by_cases hk7 : k < 7
      · have d2 : decide ((k : Int) < 7) = true := decide_eq_true (by omega)
        have d2' : decide (k < 7) = true := decide_eq_true (by omega)
        obtain ⟨bp, op, rfl, -, -, pc⟩ := h0.int_at k hkp
        replace pc := below_cell hBw pc
        generalize t.parents[k] = pv at *
        have hwd := within_bd pv (-1) k (by omega)
        go_wp2_with fail
        refine (within_calls pv (-1) k _ (by omega) (by omega) (by omega)).mono ?_
        rintro e w1 ⟨rfl, rfl⟩
        generalize withinS pv (-1) k = x at *
        clear pc d1 d1' d2 d2'
        go_upto_region 8 with fail
        go_cut [52] (fun bv wx => (∃ b, bv = .bool b) ∧ Below wo.heap.size wo wx)
        case first =>
          as_aux_lemma =>
          by_cases hx : 0 ≤ x
          · obtain ⟨m, rfl⟩ : ∃ m : Nat, x = (m : Int) := ⟨x.toNat, by omega⟩
            have e1 : decide ((0 : Int) ≤ (m : Int)) = true := decide_eq_true hx
            have hov := HW.out.sl (B := fun _ => True) (fun _ c _ => False.elim c) (fun _ _ => trivial)
            try rw [hdl] at hov
            obtain ⟨bd, od, rfl, -, -, dc⟩ := hov.int_at m (by omega)
            have hor := HO.out.sl (B := fun _ => True) (fun _ _ _ => trivial) (fun _ _ => trivial)
            try rw [hrl] at hor
            obtain ⟨bo, oo, sv, rfl, -, -, hsv, o0, o1, o2, o3, o4, o5, o6, o7, -⟩ := hor.record_at m (by omega)
            have HL := Lib.hid (last_calls _ sv _ wo hsv)
            generalize (rs[m]).segs = sg at *
            generalize (ds[m]) = dm at *
            obtain ⟨As, cs, rfl, -, -, -⟩ := hsv.form
            clear hov hor hsv o0 o1 o3 o4 o5 o6 o7
            by_cases h3 : (3 : Int) < dm
            · have e2 : decide ((3 : Int) < dm) = true := decide_eq_true h3
              go_wp2
              go_meet
              case rel => exact ⟨⟨_, rfl⟩, Below.refl _ _⟩
            · have e2 : decide ((3 : Int) < dm) = false := decide_eq_false h3
              go_wp2_with fail
              refine HL.out.mono ?_
              rintro e w2 ⟨rfl, hb2⟩
              go_wp2
              go_meet
              case rel => exact ⟨⟨_, rfl⟩, hb2⟩
          · have e1 : decide ((0 : Int) ≤ x) = false := decide_eq_false hx
            go_wp2
            go_meet
            case rel => exact ⟨⟨_, rfl⟩, Below.refl _ _⟩
        case rest =>
          obtain ⟨⟨bq, rfl⟩, hbc⟩ := hcut
          go_upto_if 52 with fail
          go_cut [7] (fun pv wx => (∃ p : Int, pv = .int .i64 p ∧ -1 ≤ p ∧ p ≤ k) ∧ wx = wc)
          case first =>
            as_aux_lemma =>
            cases bq
            · go_wp2
              go_meet
              case rel => exact ⟨⟨x, rfl, hwd⟩, rfl⟩
            · go_wp2
              go_meet
              case rel => exact ⟨⟨-1, rfl, by omega, by omega⟩, rfl⟩
          case rest =>
            obtain ⟨⟨p, rfl, hp1, hp2⟩, rfl⟩ := hcut
            obtain ⟨wa, rfl⟩ : ∃ wa : World, wa = wc := ⟨_, rfl⟩
            clear hwd
            go_upto_if 54 with fail
            go_cut [8] (fun dv wx => (∃ d : Int, dv = .int .i64 d ∧ 0 ≤ d ∧ d ≤ k + 1) ∧ wx = wa)
            case first =>
              as_aux_lemma =>
              by_cases hx : 0 ≤ p
              · obtain ⟨m, rfl⟩ : ∃ m : Nat, p = (m : Int) := ⟨p.toNat, by omega⟩
                have e1 : decide ((0 : Int) ≤ (m : Int)) = true := decide_eq_true hx
                have hov := (HW.out.sl (B := fun _ => True) (fun _ c _ => False.elim c) (fun _ _ => trivial)).below hbc
                have hdb := HD.out m (by omega)
                try rw [hdl] at hov
                obtain ⟨bd, od, rfl, -, -, dc⟩ := hov.int_at m (by omega)
                generalize (ds[m]) = dm at *
                clear hov
                go_wp2
                go_meet
                case rel => exact ⟨⟨_, rfl, by omega, by omega⟩, rfl⟩
              · have e1 : decide ((0 : Int) ≤ p) = false := decide_eq_false hx
                go_wp2
                go_meet
                case rel => exact ⟨⟨1, rfl, by omega, by omega⟩, rfl⟩
            case rest =>
              obtain ⟨⟨d, rfl, hd1, hd2⟩, rfl⟩ := hcut
              obtain ⟨wa, rfl⟩ : ∃ wa : World, wa = wc := ⟨_, rfl⟩
              obtain ⟨nb, hnb, hconv⟩ := conv_one wa k hk7
              have HTB := Lib.hid hT
              clear t0 t1 t2 t3 t4 t5 t6 hT
              go_upto_region 13 with fail
              go_cut [9] (fun nv wx => (∃ nb : ByteArray, nv = .string nb ∧ nb.size = 1) ∧ Below wo.heap.size wo wx)
              case first =>
                as_aux_lemma =>
                go_wp2
                go_meet
                case rel => exact ⟨⟨nb, rfl, hnb⟩, below_alloc hbc (Nat.le_refl _) _⟩
              case rest =>
                clear hbc hconv hnb
                obtain ⟨⟨nb, rfl, hnb⟩, hbc⟩ := hcut
                obtain ⟨wa, rfl⟩ : ∃ wa : World, wa = wc := ⟨_, rfl⟩
                have t1 := (HTB.out.below hbc HTB.out.lt).cell 1
                simp only [List.getElem?_cons_zero, List.getElem?_cons_succ] at t1
                have hwa : Below w.heap.size w wa := below_then hBw (Nat.le_refl _) hbc
                have hq := within_bd (pickS t.kinds k) 0 4 (by omega)
                have HP := Lib.hid (pick_calls t.kinds k _ B wa (h1.below hwa) (by omega))
                have HW4 := Lib.hid (within_calls (pickS t.kinds k) 0 4 wa (by omega) (by omega) (by omega))
                generalize withinS (pickS t.kinds k) 0 4 = q at *
                generalize pickS t.kinds k = pk at *
                go_upto_if 76 with (first
                  | (go_at_call 14; refine HP.out.mono ?_; rintro e w2 ⟨rfl, rfl⟩)
                  | (go_at_call 12; refine HW4.out.mono ?_; rintro e w2 ⟨rfl, rfl⟩)
                  | fail)
                have hbl := Blk.new wa [.int .i64 (q - 1), .string (⟨#[112]⟩ ++ nb)] 59
                have hbw : Below wo.heap.size wo (wa.alloc (.cells #[.int .i64 (q - 1), .string (⟨#[112]⟩ ++ nb)] 59)) := below_alloc hbc (Nat.le_refl _) _
                change Blk (wa.alloc (.cells #[.int .i64 (q - 1), .string (⟨#[112]⟩ ++ nb)] 59)) wa.heap.size _ _ at hbl
                generalize wa.alloc (.cells #[.int .i64 (q - 1), .string (⟨#[112]⟩ ++ nb)] 59) = wb at *
                have hza := hbc.size
                generalize wa.heap.size = sb at *
                clear t1 HP HW4 hwa hbc
                go_cut [10] (fun sv wx => ∃ (sg : Seg) (sb : Nat), sv = .pointer (some ⟨sb, 0, none⟩) ∧ wo.heap.size ≤ sb ∧ Blk wx sb [.int .i64 sg.kind, .string sg.text] 59 ∧ SegMade sg ∧ Below wo.heap.size wo wx)
                case first =>
                  as_aux_lemma =>
                  have e0 := hbl.cell 0
                  have e1 := hbl.cell 1
                  have f0 := hbl.frozen 0
                  have f1 := hbl.frozen 1
                  simp only [List.getElem?_cons_zero, List.getElem?_cons_succ] at e0 e1
                  by_cases hq0 : q - 1 ≤ 0
                  · have d1 : decide (q - 1 ≤ 0) = true := decide_eq_true hq0
                    have t2 := (HTB.out.below hbw HTB.out.lt).cell 2
                    simp only [List.getElem?_cons_zero, List.getElem?_cons_succ] at t2
                    have hwb : Below w.heap.size w wb := below_then hBw (Nat.le_refl _) hbw
                    have hq2 := within_bd (pickS t.texts k) 0 5 (by omega)
                    have HP := Lib.hid (pick_calls t.texts k _ B wb (h2.below hwb) (by omega))
                    have HW4 := Lib.hid (within_calls (pickS t.texts k) 0 5 wb (by omega) (by omega) (by omega))
                    generalize withinS (pickS t.texts k) 0 5 = q2 at *
                    generalize pickS t.texts k = pk2 at *
                    obtain ⟨j2, rfl⟩ : ∃ j2 : Nat, q2 = (j2 : Int) := ⟨q2.toNat, by omega⟩
                    have hj2 : j2 < tabTexts.length := by have : tabTexts.length = 6 := rfl; omega
                    have hx := ((HN.out.2.2.2.1.move (B' := fun _ => True) (fun b hb hl => ⟨trivial, hB.block b (by omega)⟩)).below hbw).str_at j2 hj2
                    obtain ⟨bx, ox, ex, -, -, xc, -⟩ := hx
                    cases ex
                    have hmem : tabTexts[j2] ∈ tabTexts := List.getElem_mem hj2
                    have hj6 : j2 < 6 := hj2
                    generalize tabTexts[j2] = tx at *
                    simp only [Nat.zero_add] at xc
                    clear hj2 hB
                    go_wp2_with (first
                      | (go_at_call 14; refine HP.out.mono ?_; rintro e w2 ⟨rfl, rfl⟩)
                      | (go_at_call 12; refine HW4.out.mono ?_; rintro e w2 ⟨rfl, rfl⟩)
                      | fail)
                    go_meet
                    case rel =>
                      have hset := (hbl.set 0 (.int .i64 0)).set 1 (.string tx)
                      have hst : tx.size ≤ 4 := (by decide : ∀ x ∈ tabTexts, x.size ≤ 4) tx hmem
                      exact ⟨⟨0, tx⟩, sb, rfl, hza, hset, ⟨by simp, by simp, fun _ => hmem, hst⟩, hbw.trans ((((Ch.refl (fun k => k = sb) wb).setCell _ _ (fun _ => rfl)).setCell _ _ (fun _ => rfl)).below hbw.size (fun b hb e => by omega))⟩
                  · have d1 : decide (q - 1 ≤ 0) = false := decide_eq_false hq0
                    go_wp2
                    go_meet
                    case rel => exact ⟨⟨q - 1, ⟨#[112]⟩ ++ nb⟩, sb, rfl, hza, hbl, ⟨by simp only; omega, by simp only; omega, fun h => by simp only at h; omega, by simp only [ByteArray.size_append]; rw [hnb]; decide⟩, hbw⟩
                case rest =>
                  clear hbl hbw hza
                  obtain ⟨sg, sb, rfl, hsb, hbl, HSG, hbw⟩ := hcut
                  obtain ⟨wa, rfl⟩ : ∃ wa : World, wa = wc := ⟨_, rfl⟩
                  go_upto_region 17 with fail
                  have s0 := hbl.cell 0
                  have s1 := hbl.cell 1
                  have t5 := (HTB.out.below hbw HTB.out.lt).cell 5
                  have t6 := (HTB.out.below hbw HTB.out.lt).cell 6
                  simp only [List.getElem?_cons_zero, List.getElem?_cons_succ] at s0 s1 t5 t6
                  go_cut [11] (fun rv wx => ∃ rb : Nat, rv = .pointer (some ⟨rb, 0, none⟩) ∧ wo.heap.size ≤ rb ∧ RecAt wo wx rb sg p)
                  case first =>
                    as_aux_lemma =>
                    go_region_held3 (fun w' => w'.cell? ⟨w.heap.size, 5, none⟩ = some (.slice A5 t.keeps.length c5) ∧ w'.cell? ⟨w.heap.size, 6, none⟩ = some (.slice A6 t.comps.length c6) ∧ w'.cell? ⟨sb, 0, none⟩ = some (.int .i64 sg.kind) ∧ w'.cell? ⟨sb, 1, none⟩ = some (.string sg.text))
                      (first | assumption | exact ⟨t5, t6, s0, s1⟩ | (refine rec_keep ?_ _; assumption) | (refine rec_below ⟨t5, t6, s0, s1⟩ ?_; repeat (first | exact Below.refl _ _ | apply Below.drew | refine below_alloc ?_ (Nat.le_refl _) _)) | fail)
                      (first
                      | (go_at_call_of 14 (Value.slice A5 t.keeps.length c5); refine (pick_calls t.keeps k _ B _ (h5.below (below_then hBw (Nat.le_refl _) (by repeat (first | exact hbw | apply Below.drew | refine below_alloc ?_ (Nat.le_refl _) _)))) (by omega)).mono ?_; rintro e w2 ⟨rfl, rfl⟩)
                      | (go_at_call_of 14 (Value.slice A6 t.comps.length c6); refine (pick_calls t.comps k _ B _ (h6.below (below_then hBw (Nat.le_refl _) (by repeat (first | exact hbw | apply Below.drew | refine below_alloc ?_ (Nat.le_refl _) _)))) (by omega)).mono ?_; rintro e w2 ⟨rfl, rfl⟩)
                      | (go_at_call 12; refine (within_calls (pickS t.comps k) 0 3 _ (by omega) (by omega) (by omega)).mono ?_; rintro e w2 ⟨rfl, rfl⟩)
                      | fail)
                    all_goals
                      go_wp2
                      go_meet
                    all_goals first
                      | exact ⟨wa.heap.size + 1, rfl, by have := hbw.size; omega, rec_made hbw HSG.size hnb _ _⟩
                      | exact ⟨wa.heap.size, rfl, hbw.size, rec_made2 hbw HSG.size hnb _ _⟩
                  case rest =>
                    clear hbl hbw s0 s1 t5 t6
                    obtain ⟨rb, rfl, hrb, hR⟩ := hcut
                    obtain ⟨wa, rfl⟩ : ∃ wa : World, wa = wc := ⟨_, rfl⟩
                    have hbw := hR.below
                    have t3 := (HTB.out.below hbw HTB.out.lt).cell 3
                    simp only [List.getElem?_cons_zero, List.getElem?_cons_succ] at t3
                    have HP3 := Lib.hid (pick_calls t.rules k _ B wa (h3.below (below_then hBw (Nat.le_refl _) hbw)) (by omega))
                    go_upto_if 111 with (first
                      | (go_at_call 14; refine HP3.out.mono ?_; rintro e w2 ⟨rfl, rfl⟩)
                      | fail)
                    generalize (bits BinOp.and IntKind.i64 (pickS t.rules k) 3 == 3) = bb at *
                    have HRA := Lib.hid hR
                    clear hR HP3
                    go_cut [11] (fun rv wx => rv = .pointer (some ⟨rb, 0, none⟩) ∧ RecAt wo wx rb sg p)
                    case first =>
                      as_aux_lemma =>
                      cases bb
                      · go_wp2
                        go_meet
                        case rel => exact ⟨rfl, HRA.out⟩
                      · go_upto_region 19 with fail
                        have t4 := (HTB.out.below hbw HTB.out.lt).cell 4
                        simp only [List.getElem?_cons_zero, List.getElem?_cons_succ] at t4
                        go_cut [11] (fun rv wx => rv = .pointer (some ⟨rb, 0, none⟩) ∧ RecAt wo wx rb sg p)
                        case first =>
                          as_aux_lemma =>
                          obtain ⟨r5, r6, r7, q5, q6, q7⟩ := HRA.out.cells
                          obtain ⟨x5, r5⟩ := r5
                          obtain ⟨x6, r6⟩ := r6
                          obtain ⟨x7, r7⟩ := r7
                          go_region_held3 (fun w' => w'.cell? ⟨w.heap.size, 3, none⟩ = some (.slice A3 t.rules.length c3) ∧ w'.cell? ⟨w.heap.size, 4, none⟩ = some (.slice A4 t.flags.length c4))
                            (first | assumption | exact ⟨t3, t4⟩ | (exact rec_set3 ⟨t3, t4⟩ (by have := hBw.size; have := HTB.out.lt; omega) _ _ _) | fail)
                            (first
                            | (go_at_call_of 14 (Value.slice A3 t.rules.length c3); refine (pick_calls t.rules k _ B _ (h3.below (below_then hBw (Nat.le_refl _) (by repeat (first | exact hbw | apply Below.drew)))) (by omega)).mono ?_; rintro e w2 ⟨rfl, rfl⟩)
                            | (go_at_call_of 14 (Value.slice A4 t.flags.length c4); refine (pick_calls t.flags k _ B _ (h4.below (below_then hBw (Nat.le_refl _) (by repeat (first | exact hbw | apply Below.drew)))) (by omega)).mono ?_; rintro e w2 ⟨rfl, rfl⟩)
                            | (go_at_call_of 12 (Value.int .i64 4); refine (within_calls _ 0 4 _ (by omega) (by omega) (by omega)).mono ?_; rintro e w2 ⟨rfl, rfl⟩)
                            | (go_at_call_of 12 (Value.int .i64 3); refine (within_calls _ 0 3 _ (by omega) (by omega) (by omega)).mono ?_; rintro e w2 ⟨rfl, rfl⟩)
                            | fail)
                          all_goals
                            go_wp2
                            go_meet
                          all_goals exact ⟨rfl, (((HRA.out.set5 _).set6 _).set7 _ (by decide)).drew⟩
                        case rest =>
                          clear hbw t3 t4 HRA
                          obtain ⟨rfl, hR⟩ := hcut
                          obtain ⟨wa, rfl⟩ : ∃ wa : World, wa = wc := ⟨_, rfl⟩
                          have hbw := hR.below
                          have HRA := Lib.hid hR
                          obtain ⟨⟨rk, r5⟩, -, ⟨x7, r7⟩, -, -, q7⟩ := hR.cells
                          clear hR
                          go_upto_region 20 with fail
                          go_cut [134] (fun bv wx => (∃ b, bv = .bool b) ∧ wx = wa)
                          case first =>
                            as_aux_lemma =>
                            by_cases h3' : rk = 3
                            · have d3 : (rk == 3) = true := by rw [h3']; rfl
                              go_wp2
                              go_meet
                              case rel => exact ⟨⟨_, rfl⟩, rfl⟩
                            · have d3 : (rk == 3) = false := beq_eq_false_iff_ne.2 h3'
                              go_wp2
                              go_meet
                              case rel => exact ⟨⟨_, rfl⟩, rfl⟩
                          case rest =>
                            obtain ⟨⟨bq, rfl⟩, rfl⟩ := hcut
                            obtain ⟨wa, rfl⟩ : ∃ wa : World, wa = wc := ⟨_, rfl⟩
                            cases bq
                            · go_wp2
                              go_meet
                              case rel => exact ⟨rfl, HRA.out⟩
                            · have t4 := (HTB.out.below hbw HTB.out.lt).cell 4
                              simp only [List.getElem?_cons_zero, List.getElem?_cons_succ] at t4
                              have hwq := within_bd (pickS t.flags (k + 1)) 0 k (by omega)
                              have HP := Lib.hid (pick_calls t.flags (k + 1) _ B wa (h4.below (below_then hBw (Nat.le_refl _) hbw)) (by omega))
                              have HW4 := Lib.hid (within_calls (pickS t.flags (k + 1)) 0 k wa (by omega) (by omega) (by omega))
                              generalize withinS (pickS t.flags (k + 1)) 0 k = q2 at *
                              generalize pickS t.flags (k + 1) = pk2 at *
                              obtain ⟨m, rfl⟩ : ∃ m : Nat, q2 = (m : Int) := ⟨q2.toNat, by omega⟩
                              have hor := (HO.out.sl (B := fun _ => True) (fun _ _ _ => trivial) (fun _ _ => trivial)).below hbw
                              try rw [hrl] at hor
                              obtain ⟨bo, oo, sv, rfl, -, -, -, o0, -, -, -, -, -, -, -, -⟩ := hor.record_at m (by omega)
                              have hnm := HM.out.name m (by omega)
                              generalize (rs[m]).name = nm at *
                              clear hor
                              go_wp2_with (first
                                | (go_at_call 14; refine HP.out.mono ?_; rintro e w2 ⟨rfl, rfl⟩)
                                | (go_at_call 12; refine HW4.out.mono ?_; rintro e w2 ⟨rfl, rfl⟩)
                                | fail)
                              go_meet
                              case rel => exact ⟨rfl, HRA.out.set7 _ hnm⟩
                    case rest =>
                      clear hbw t3 HRA
                      obtain ⟨rfl, hR⟩ := hcut
                      obtain ⟨wa, rfl⟩ : ∃ wa : World, wa = wc := ⟨_, rfl⟩
                      have hbw := hR.below
                      obtain ⟨r, sv, hbk, hsv, hsg, hpr, hnm, hto, -, -⟩ := hR
                      obtain ⟨As, cs, rfl, -, -, -⟩ := hsv.form
                      have r0 := hbk.cell 0
                      have r1 := hbk.cell 1
                      have r2 := hbk.cell 2
                      have r3 := hbk.cell 3
                      have r4 := hbk.cell 4
                      have r5 := hbk.cell 5
                      have r6 := hbk.cell 6
                      have r7 := hbk.cell 7
                      simp only [List.getElem?_cons_zero, List.getElem?_cons_succ] at r0 r1 r2 r3 r4 r5 r6 r7
                      subst hpr
                      have hza : wo.heap.size ≤ wa.heap.size := hbw.size
                      have hzb : w.heap.size + 1 + 1 ≤ wo.heap.size := by have := hB.size; omega
                      have hrl2 : rs.length ≤ 8 := by omega
                      have hal : Below wo.heap.size wo (wa.alloc (.cells #[.string r.name, .int .i64 r.parent, .slice As 1 cs, .int .i64 r.comp, .bool r.keep, .int .i64 r.rule.kind, .int .i64 r.rule.flag, .string r.rule.to] 46)) := below_alloc hbw (Nat.le_refl _) _
                      have hOA := Lib.hid (rec_own HO.out hbw (.cells #[.string r.name, .int .i64 r.parent, .slice As 1 cs, .int .i64 r.comp, .bool r.keep, .int .i64 r.rule.kind, .int .i64 r.rule.flag, .string r.rule.to] 46))
                      have hSR := Lib.hid (rec_src HO.out HW.out hbw hzb hsv hsg hnm hto)
                      have HSG2 := Lib.hid hsg
                      have HMS := Lib.hid (Made.snoc HM.out (by omega) hp1 (by rw [hrl]; omega) hsg HSG hnm hto)
                      have HAL := Lib.hid hal
                      clear hsv hsg hnm hto hbk hal
                      go_wp2_with (at_builtin; refine wp_app eRecord rfl (.tmp 150) (.tmp 152) 26 46 rfl Tryz.underlying26 (.agg #[.string ⟨#[]⟩, .int .i64 0, .slice none 0 0, .int .i64 0, .bool false, .int .i64 0, .int .i64 0, .string ⟨#[]⟩]) 96 infoRecord rfl (by decide) (fun b => (w.heap.size + 1 + 1 ≤ b ∧ (Value.slice Ao (k + 1) co).ownBlock ≠ some b ∧ (Value.slice Ad (k + 1) cd).ownBlock ≠ some b) ∧ b < wa.heap.size) _ rs rfl ?own _ [r] rfl ?src ?c3 ?c4 ?_)
                      case own => exact hOA.out
                      case src => exact hSR.out
                      case c3 => unfold maxLen; show rs.length + 1 ≤ _; omega
                      case c4 => show (rs.length + 1) * 96 ≤ _; omega
                      intro v' w' hown' hg' hv'
                      have hgz : wa.heap.size + 1 ≤ w'.heap.size := by have := hg'.size; simpa using this
                      have hv1 : v'.ownBlock = (Value.slice Ao (k + 1) co).ownBlock ∨ ∀ g, v'.ownBlock = some g → wa.heap.size + 1 ≤ g := by simpa using hv'
                      have hown1 : Ow eRecord 46 w' (fun b => ((w.heap.size + 1 + 1 ≤ b ∧ (Value.slice Ao (k + 1) co).ownBlock ≠ some b ∧ (Value.slice Ad (k + 1) cd).ownBlock ≠ some b) ∧ b < wa.heap.size) ∧ b < wa.heap.size + 1) v' (rs ++ [r]) := by simpa using hown'
                      have hdw : Ow (eInt .i64) 3 w' (fun _ => False) (.slice Ad (k + 1) cd) ds := (HW.out.move (w' := wa.alloc (.cells #[.string r.name, .int .i64 r.parent, .slice As 1 cs, .int .i64 r.comp, .bool r.keep, .int .i64 r.rule.kind, .int .i64 r.rule.flag, .string r.rule.to] 46)) (I' := fun _ => False) (fun b hb => hb.elim) (fun g hg => ⟨fun c => c, HAL.out.block g (HW.out.lt g hg)⟩)).move (fun b hb => hb.elim) (fun g hg => ⟨fun c => c, hg'.block g (Nat.lt_of_lt_of_le (HW.out.lt g hg) HAL.out.size) (fun e => HG.out.2.2 g e.symm hg)⟩)
                      have hB1 : Below (w.heap.size + 1 + 1) W0 w' := below_grown (below_then hB (by omega) HAL.out) (by omega) hg' (fun g hg => HG.out.1 g hg)
                      have HO1 := Lib.hid (And.intro hown1 hv1)
                      have HDW := Lib.hid hdw
                      clear hown' hg' hv' hown1 hv1 hdw
                      try intro _
                      go_wp2_with (at_builtin; refine wp_app (eInt .i64) rfl (.tmp 154) (.tmp 156) 22 3 rfl Tryz.underlying22 (.int .i64 0) 8 infoInt rfl (by decide) (fun _ => False) _ ds rfl ?own _ [d] rfl ?src ?c3 ?c4 ?_)
                      case own => exact (HDW.out.below (below_alloc (Below.refl _ _) (Nat.le_refl _) _)).plain (fun _ c => c.1)
                      case src => exact one_new (eInt .i64) w' (fun _ => False) d _ 3 rfl (fun b c => False.elim c)
                      case c3 => unfold maxLen; show ds.length + 1 ≤ _; omega
                      case c4 => show (ds.length + 1) * 8 ≤ _; omega
                      intro v2 w2 hown2 hg2 hv2
                      have hv3 : v2.ownBlock = (Value.slice Ad (k + 1) cd).ownBlock ∨ ∀ g, v2.ownBlock = some g → w'.heap.size + 1 ≤ g := by simpa using hv2
                      have hres := rec_next HO1.out.1 HO1.out.2 hgz hg2 hv3 HG.out (fun g hg => Nat.lt_of_lt_of_le (HW.out.lt g hg) hza) (by omega)
                      have hds : Hid (∀ j (h : j < (ds ++ [d]).length), 0 ≤ (ds ++ [d])[j] ∧ (ds ++ [d])[j] ≤ j) := Lib.hid (fun j h => by
                        by_cases hlt : j < ds.length
                        · rw [List.getElem_append_left hlt]; exact HD.out j hlt
                        · obtain rfl : j = ds.length := by simp at h; omega
                          simp
                          omega)
                      have hB2 : Below (w.heap.size + 1 + 1) W0 w2 := app_below hB1 (by omega) hg2 (fun g hg => HG.out.2.1 g hg)
                      have hd3 : Hid (Ow (eInt .i64) 3 w2 (fun _ => False) v2 (ds ++ [d])) := Lib.hid (hown2.plain (fun _ c => by first | exact c | exact c.1))
                      have HRES := Lib.hid hres
                      clear hown2 hg2 hv2 hv3 hres
                      try intro _
                      go_wp2
                      go_roundg (7 - (k + 1))
                      case measure => omega
                      case rel => exact ⟨k + 1, rs ++ [r], ds ++ [d], by omega, rfl, by go_num, by simp; omega, by simp; omega, HMS, hds, Lib.hid HRES.out.1, hd3, Lib.hid HRES.out.2, hB2⟩
      · have d2 : decide ((k : Int) < 7) = false := decide_eq_false (by omega)
        have d2' : decide (k < 7) = false := decide_eq_false (by omega)
        go_wp2
        go_ret
        have hr := HO.out.sl (B := fun b => w.heap.size ≤ b) (fun b h _ => by omega) (fun g hg => by have := HG.out.1 g hg; omega)
        try rw [hrl] at hr
        exact ⟨_, rfl, rs, hr, HM.out, hBw⟩
    · have d1 : decide ((k : Int) < (t.parents.length : Int)) = false := decide_eq_false (by omega)
      have d1' : decide (k < t.parents.length) = false := decide_eq_false (by omega)
      go_wp2
      go_ret
      have hr := HO.out.sl (B := fun b => w.heap.size ≤ b) (fun b h _ => by omega) (fun g hg => by have := HG.out.1 g hg; omega)
      try rw [hrl] at hr
      exact ⟨_, rfl, rs, hr, HM.out, hBw⟩
end Go.Proofs.YtejbkjndipineaaGreatDoor
