/- Walk of the law's runs. -/
import Derived.Test.YtejbkjndipineaaGreatDoorEval
import Derived.Laws.OwnMore
namespace Go.Proofs.YtejbkjndipineaaGreatDoor
open Go Go.RowKit PR
set_option linter.unusedVariables false
set_option linter.unusedSimpArgs false
set_option maxHeartbeats 400000
set_option maxRecDepth 100000

theorem Ow.setRule {w : World} {e g cap : Nat} {I : Nat → Prop} {r0 r1 : Record} (h : Ow eRecord e w I (.slice (some ⟨g, 0, none⟩) 2 cap) [r0, r1]) (k f : Int) (t : ByteArray) (ht : t.size ≤ maxLen) :
    Ow eRecord e (((w.setCell ⟨g, 13, none⟩ (.int .i64 k)).setCell ⟨g, 14, none⟩ (.int .i64 f)).setCell ⟨g, 15, none⟩ (.string t)) I (.slice (some ⟨g, 0, none⟩) 2 cap) [r0, ⟨r1.name, r1.parent, r1.segs, r1.comp, r1.keep, ⟨k, f, t⟩⟩] := by
  obtain ⟨cs, ho, he, hn⟩ := h
  have hc : Ch (fun b => b = g) w (((w.setCell ⟨g, 13, none⟩ (.int .i64 k)).setCell ⟨g, 14, none⟩ (.int .i64 f)).setCell ⟨g, 15, none⟩ (.string t)) := (((Ch.refl (fun b => b = g) w).setCell ⟨g, 13, none⟩ _ (fun _ => rfl)).setCell ⟨g, 14, none⟩ _ (fun _ => rfl)).setCell ⟨g, 15, none⟩ _ (fun _ => rfl)
  have hng : ¬ I g := hn g rfl
  have hl : cs.length = 16 := ho.1
  refine ⟨((cs.set 13 (.int .i64 k)).set 14 (.int .i64 f)).set 15 (.string t), ((ho.stored 13 (.int .i64 k)).1.stored 14 (.int .i64 f)).1.stored 15 (.string t) |>.1, fun i hi => ?_, hn⟩
  have hi2 : i = 0 ∨ i = 1 := by simp at hi; omega
  rcases hi2 with rfl | rfl
  · obtain ⟨c, hR, hj⟩ := he 0 (by simp)
    have hcl : c.length = 8 := eRecord.len hR
    refine ⟨c, eRecord.move (fun b hb hlt => ⟨hb, hc.block b hlt (fun e => hng (e ▸ hb))⟩) hR, fun j u hu => ?_⟩
    have hj8 : j < 8 := by rw [← hcl]; exact (List.getElem?_eq_some_iff.1 hu).1
    have := hj j u hu
    have e8 : 0 * eRecord.sz + j = j := by omega
    rw [e8] at this ⊢
    rw [List.getElem?_set_ne (by omega), List.getElem?_set_ne (by omega), List.getElem?_set_ne (by omega)]
    exact this
  · obtain ⟨c, hR, hj⟩ := he 1 (by simp)
    obtain ⟨v, rfl, hv, hnm, -⟩ := eRecord_open hR
    refine ⟨_, eRecord_mk (r := ⟨r1.name, r1.parent, r1.segs, r1.comp, r1.keep, ⟨k, f, t⟩⟩) (hv.move (fun b hb hlt => ⟨hb, hc.block b hlt (fun e => hng (e ▸ hb))⟩)) hnm ht, fun j u hu => ?_⟩
    have e8 : ∀ j, 1 * eRecord.sz + j = 8 + j := fun j => by show 1 * 8 + j = _; omega
    have hj' := fun j u => hj j u
    rw [e8]
    match j, hu with
    | 0, hu => rw [List.getElem?_set_ne (by omega), List.getElem?_set_ne (by omega), List.getElem?_set_ne (by omega), ← e8]; exact hj 0 u hu
    | 1, hu => rw [List.getElem?_set_ne (by omega), List.getElem?_set_ne (by omega), List.getElem?_set_ne (by omega), ← e8]; exact hj 1 u hu
    | 2, hu => rw [List.getElem?_set_ne (by omega), List.getElem?_set_ne (by omega), List.getElem?_set_ne (by omega), ← e8]; exact hj 2 u hu
    | 3, hu => rw [List.getElem?_set_ne (by omega), List.getElem?_set_ne (by omega), List.getElem?_set_ne (by omega), ← e8]; exact hj 3 u hu
    | 4, hu => rw [List.getElem?_set_ne (by omega), List.getElem?_set_ne (by omega), List.getElem?_set_ne (by omega), ← e8]; exact hj 4 u hu
    | 5, hu =>
      simp only [List.getElem?_cons_succ, List.getElem?_cons_zero, Option.some.injEq] at hu
      subst hu
      rw [List.getElem?_set_ne (by omega), List.getElem?_set_ne (by omega), List.getElem?_set_self (by omega)]
    | 6, hu =>
      simp only [List.getElem?_cons_succ, List.getElem?_cons_zero, Option.some.injEq] at hu
      subst hu
      rw [List.getElem?_set_ne (by omega), List.getElem?_set_self (by simp; omega)]
    | 7, hu =>
      simp only [List.getElem?_cons_succ, List.getElem?_cons_zero, Option.some.injEq] at hu
      subst hu
      rw [List.getElem?_set_self (by simp; omega)]
    | j + 8, hu => simp at hu

theorem runs_sz (i : Nat) (h : i < runsL.length) : runsL[i].name.size ≤ maxLen ∧ runsL[i].rule.to.size ≤ maxLen := by
  have h2 : ∀ r ∈ runsL, r.name.size ≤ 4 ∧ r.rule.to.size ≤ 4 := by
    intro r hr
    simp only [runsL, List.mem_cons, List.mem_nil_iff, or_false] at hr
    rcases hr with rfl | rfl
    · exact ⟨(by decide : homeB.size ≤ 4), (by decide : shopB.size ≤ 4)⟩
    · exact ⟨(by decide : shopB.size ≤ 4), (by decide : (⟨#[]⟩ : ByteArray).size ≤ 4)⟩
  have := h2 _ (List.getElem_mem h)
  unfold maxLen
  omega
theorem runs_start (w : World) : Below w.heap.size w ((w.alloc (.cells #[.int .i64 0, .string ⟨#[115, 104, 111, 112]⟩] 59)).alloc (.cells #[.string ⟨#[104, 111, 109, 101]⟩, .int .i64 (-1), .slice none 0 0, .int .i64 0, .bool false, .int .i64 3, .int .i64 0, .string ⟨#[115, 104, 111, 112]⟩, .string ⟨#[115, 104, 111, 112]⟩, .int .i64 (-1), .slice (some ⟨w.heap.size, 0, none⟩) 1 1, .int .i64 0, .bool false, .int .i64 0, .int .i64 0, .string ⟨#[]⟩] 46)) ∧ ((w.alloc (.cells #[.int .i64 0, .string ⟨#[115, 104, 111, 112]⟩] 59)).alloc (.cells #[.string ⟨#[104, 111, 109, 101]⟩, .int .i64 (-1), .slice none 0 0, .int .i64 0, .bool false, .int .i64 3, .int .i64 0, .string ⟨#[115, 104, 111, 112]⟩, .string ⟨#[115, 104, 111, 112]⟩, .int .i64 (-1), .slice (some ⟨w.heap.size, 0, none⟩) 1 1, .int .i64 0, .bool false, .int .i64 0, .int .i64 0, .string ⟨#[]⟩] 46)).heap.size = w.heap.size + 1 + 1 ∧
    Sl eRecord ((w.alloc (.cells #[.int .i64 0, .string ⟨#[115, 104, 111, 112]⟩] 59)).alloc (.cells #[.string ⟨#[104, 111, 109, 101]⟩, .int .i64 (-1), .slice none 0 0, .int .i64 0, .bool false, .int .i64 3, .int .i64 0, .string ⟨#[115, 104, 111, 112]⟩, .string ⟨#[115, 104, 111, 112]⟩, .int .i64 (-1), .slice (some ⟨w.heap.size, 0, none⟩) 1 1, .int .i64 0, .bool false, .int .i64 0, .int .i64 0, .string ⟨#[]⟩] 46)) (fun b => w.heap.size ≤ b) (.slice (some ⟨w.heap.size + 1, 0, none⟩) 2 2) runsL := by
  have a1 := below_alloc (Below.refl w.heap.size w) (Nat.le_refl _) (.cells #[.int .i64 0, .string ⟨#[115, 104, 111, 112]⟩] 59)
  have a2 := below_alloc a1 (Nat.le_refl _) (.cells #[.string ⟨#[104, 111, 109, 101]⟩, .int .i64 (-1), .slice none 0 0, .int .i64 0, .bool false, .int .i64 3, .int .i64 0, .string ⟨#[115, 104, 111, 112]⟩, .string ⟨#[115, 104, 111, 112]⟩, .int .i64 (-1), .slice (some ⟨w.heap.size, 0, none⟩) 1 1, .int .i64 0, .bool false, .int .i64 0, .int .i64 0, .string ⟨#[]⟩] 46)
  have hz : (w.alloc (.cells #[.int .i64 0, .string ⟨#[115, 104, 111, 112]⟩] 59)).heap.size = w.heap.size + 1 := by simp
  have hS := (Ow.lit1 eSeg 59 w (fun _ => False) ⟨0, shopB⟩ _ (eSeg_mk _ _ _ (by unfold maxLen; decide)) (fun b c => c.elim)).sl (B := fun b => b = w.heap.size) (fun b c => c.elim) (fun g hg => by simp [Value.ownBlock] at hg; exact hg.symm)
  change Sl eSeg (w.alloc (.cells #[.int .i64 0, .string ⟨#[115, 104, 111, 112]⟩] 59)) _ _ _ at hS
  refine ⟨a2, by simp, ?_⟩
  generalize (w.alloc (.cells #[.int .i64 0, .string ⟨#[115, 104, 111, 112]⟩] 59)) = w1 at *
  have hO := Ow.lit eRecord 46 w1 (fun b => b = w.heap.size) runsL [.string ⟨#[104, 111, 109, 101]⟩, .int .i64 (-1), .slice none 0 0, .int .i64 0, .bool false, .int .i64 3, .int .i64 0, .string ⟨#[115, 104, 111, 112]⟩, .string ⟨#[115, 104, 111, 112]⟩, .int .i64 (-1), .slice (some ⟨w.heap.size, 0, none⟩) 1 1, .int .i64 0, .bool false, .int .i64 0, .int .i64 0, .string ⟨#[]⟩] 2 rfl rfl (fun i hi => by
    have hi2 : i = 0 ∨ i = 1 := by simp [runsL] at hi; omega
    rcases hi2 with rfl | rfl
    · refine ⟨_, eRecord_mk (r := runsL[0]) (v := .slice none 0 0) (Sl.nil _ _ _) (runs_sz 0 hi).1 (runs_sz 0 hi).2, fun j u hu => ?_⟩
      have hj : j < 8 := by have := (List.getElem?_eq_some_iff.1 hu).1; simpa using this
      match j, hj, hu with
      | 0, _, hu => exact hu
      | 1, _, hu => exact hu
      | 2, _, hu => exact hu
      | 3, _, hu => exact hu
      | 4, _, hu => exact hu
      | 5, _, hu => exact hu
      | 6, _, hu => exact hu
      | 7, _, hu => exact hu
    · refine ⟨_, eRecord_mk (r := runsL[1]) hS (runs_sz 1 hi).1 (runs_sz 1 hi).2, fun j u hu => ?_⟩
      have hj : j < 8 := by have := (List.getElem?_eq_some_iff.1 hu).1; simpa using this
      match j, hj, hu with
      | 0, _, hu => exact hu
      | 1, _, hu => exact hu
      | 2, _, hu => exact hu
      | 3, _, hu => exact hu
      | 4, _, hu => exact hu
      | 5, _, hu => exact hu
      | 6, _, hu => exact hu
      | 7, _, hu => exact hu) (fun b hb => by rw [hb, hz]; omega) (by unfold maxLen; decide)
  have := hO.sl (B := fun b => w.heap.size ≤ b) (fun b hb _ => by omega) (fun g hg => by simp [Value.ownBlock] at hg; omega)
  rw [hz] at this
  exact this

set_option maxHeartbeats 4000000 in
theorem runs_calls (w : World) (hg : GV w) : Calls Tryz.prog 8 #[] w fun e w' => e = .returned (.bool true) ∧ Below w.heap.size w w' := by
  have HN := Lib.hid (runs_start w)
  have HG := Lib.hid hg
  clear hg
  go_enter Tryz.func8, Tryz.ntmps8
  go_wp2_with fail
  obtain ⟨hB0, hz0, hL⟩ := HN.out
  generalize ((w.alloc (.cells #[.int .i64 0, .string ⟨#[115, 104, 111, 112]⟩] 59)).alloc (.cells #[.string ⟨#[104, 111, 109, 101]⟩, .int .i64 (-1), .slice none 0 0, .int .i64 0, .bool false, .int .i64 3, .int .i64 0, .string ⟨#[115, 104, 111, 112]⟩, .string ⟨#[115, 104, 111, 112]⟩, .int .i64 (-1), .slice (some ⟨w.heap.size, 0, none⟩) 1 1, .int .i64 0, .bool false, .int .i64 0, .int .i64 0, .string ⟨#[]⟩] 46)) = w0 at *
  have hgo := go_calls runsL ⟨#[47]⟩ [] _ (.slice none 0 0) _ w0 hL (Sl.nil _ _ _) (by decide) (fun r hr => by simp [runsL] at hr; rcases hr with rfl | rfl <;> simp) (by decide) (HG.out.below hB0)
  rw [eval_l] at hgo
  have HGO := Lib.hid hgo
  have HL := Lib.hid hL
  clear hgo hL HN
  refine HGO.out.mono ?_
  rintro e w1 ⟨p, q, c, r, rfl, hp, hq, hc, hr, hb1⟩
  simp only at hp hq hc hr
  obtain ⟨Ap, cp, rfl, -, -, -⟩ := hp.form
  obtain ⟨Aq, cq, rfl, -, -, -⟩ := hq.form
  obtain ⟨Ac, cc, rfl, -, -, -⟩ := hc.form
  obtain ⟨Ar, cr, rfl, -, -, -⟩ := hr.form
  have hB1 := below_then hB0 (Nat.le_refl _) hb1
  have hz1 := hb1.size
  have hL1 := HL.out.below hb1
  have hal := below_alloc (Below.refl w1.heap.size w1) (Nat.le_refl _) (.cells #[.slice Ap 1 cp, .slice Aq 0 cq, .int .i64 1, .slice Ac 1 cc, .slice Ar 0 cr, .int .i64 1] 34)
  have hbk := Blk.new w1 [.slice Ap 1 cp, .slice Aq 0 cq, .int .i64 1, .slice Ac 1 cc, .slice Ar 0 cr, .int .i64 1] 34
  change Blk (w1.alloc (.cells #[.slice Ap 1 cp, .slice Aq 0 cq, .int .i64 1, .slice Ac 1 cc, .slice Ar 0 cr, .int .i64 1] 34)) _ _ _ at hbk
  go_upto_region 3 with fail
  generalize w1.alloc (.cells #[.slice Ap 1 cp, .slice Aq 0 cq, .int .i64 1, .slice Ac 1 cc, .slice Ar 0 cr, .int .i64 1] 34) = w2 at *
  have hB2 := below_then hB1 (Nat.le_refl _) hal
  have hz2 : w1.heap.size < w2.heap.size := hbk.lt
  have HPQ := Lib.hid (And.intro (hp.below hal) (And.intro (hq.below hal) (And.intro (hc.below hal) (hr.below hal))))
  have hL2 := hL1.below hal
  have hz : (w2.alloc (.cells #[] 46)).heap.size = w2.heap.size + 1 := by simp
  have hE := Ow.lit eRecord 46 w2 (fun b => b < w2.heap.size) [] [] 0 rfl rfl (fun i hi => absurd hi (by simp)) (fun b c => c) (Nat.zero_le _)
  change Ow eRecord _ (w2.alloc (.cells #[] 46)) _ _ _ at hE
  have hSrc : SlP eRecord.sz (w2.alloc (.cells #[] 46)) (fun _ => True) (.slice (some ⟨w.heap.size + 1, 0, none⟩) 2 2) runsL.length (fun i h cs => eRecord.R (w2.alloc (.cells #[] 46)) (fun b => b < w2.heap.size) runsL[i] cs) :=
    SlP.of_sl ((hL2.low.below (below_alloc (Below.refl _ _) (Nat.le_refl _) (.cells #[] 46)))) (fun b hb => hb.2)
  have HE := Lib.hid (And.intro hE hSrc)
  have HBK := Lib.hid hbk
  have HL2 := Lib.hid hL2
  clear hE hSrc hbk hL1 hL2 hp hq hc hr hal hb1
  go_wp2_with (at_builtin; refine wp_app eRecord rfl (.tmp 18) (.tmp 19) 26 46 rfl Tryz.underlying26 (.agg #[.string ⟨#[]⟩, .int .i64 0, .slice none 0 0, .int .i64 0, .bool false, .int .i64 0, .int .i64 0, .string ⟨#[]⟩]) 96 infoRecord rfl (by decide) (fun b => b < w2.heap.size) _ [] rfl ?own _ runsL rfl ?src ?c3 ?c4 ?_)
  case own => exact HE.out.1
  case src => exact HE.out.2
  case c3 => unfold maxLen; decide
  case c4 => decide
  intro v' w3 hown' hg' hv'
  have hB3 : Below w2.heap.size w2 w3 := below_grown (below_alloc (Below.refl w2.heap.size w2) (Nat.le_refl _) (.cells #[] 46)) (Nat.le_refl _) hg' (fun g hg => by simp [Value.ownBlock] at hg; omega)
  have hgv : ∀ g, v'.ownBlock = some g → w2.heap.size ≤ g := by
    intro g hg
    rcases hv' with hv | hv
    · rw [hv] at hg
      simp [Value.ownBlock] at hg
      omega
    · have := hv g hg
      omega
  obtain ⟨g, capg, rfl⟩ : ∃ g capg, v' = .slice (some ⟨g, 0, none⟩) 2 capg := by
    obtain ⟨cs, ho, -⟩ := hown'
    rcases ho.2 with ⟨-, h0⟩ | ⟨g, cap, cur, e, -⟩
    · exact absurd h0 (by decide)
    · exact ⟨g, cap, e⟩
  have hgg := hgv g rfl
  have hfr : ∀ j, w3.frozen? ⟨g, j, none⟩ = false := by
    obtain ⟨cs, ho, -⟩ := hown'
    exact fun j => ho.frozenAt j
  have hsl3 := hown'.sl (B := fun _ => True) (fun _ _ _ => trivial) (fun _ _ => trivial)
  obtain ⟨b1, o1, sv, e1, -, -, -, -, -, -, -, -, m5, m6, m7, -, -⟩ := hsl3.record_at 1 (by decide)
  cases e1
  have m5' : w3.cell? ⟨g, 13, none⟩ = some (.int .i64 0) := m5
  have m6' : w3.cell? ⟨g, 14, none⟩ = some (.int .i64 0) := m6
  have m7' : w3.cell? ⟨g, 15, none⟩ = some (.string ⟨#[]⟩) := m7
  have f5 := hfr 13
  have f6 := hfr 14
  have f7 := hfr 15
  have hOM := Ow.setRule hown' 3 0 homeB (by unfold maxLen; decide)
  have HM := Lib.hid (hOM.sl (B := fun _ => True) (fun _ _ _ => trivial) (fun _ _ => trivial))
  have hc4 : Ch (fun b => b = g) w3 (((w3.setCell ⟨g, 13, none⟩ (.int .i64 3)).setCell ⟨g, 14, none⟩ (.int .i64 0)).setCell ⟨g, 15, none⟩ (.string homeB)) := (((Ch.refl (fun b => b = g) w3).setCell ⟨g, 13, none⟩ _ (fun _ => rfl)).setCell ⟨g, 14, none⟩ _ (fun _ => rfl)).setCell ⟨g, 15, none⟩ _ (fun _ => rfl)
  have hB24 : Below w2.heap.size w2 (((w3.setCell ⟨g, 13, none⟩ (.int .i64 3)).setCell ⟨g, 14, none⟩ (.int .i64 0)).setCell ⟨g, 15, none⟩ (.string homeB)) := hB3.trans (hc4.below hB3.size (fun b hb e => by omega))
  have HB24 := Lib.hid hB24
  clear hown' hg' hv' hgv hfr hsl3 m5 m6 m7 hOM hc4 hB24 hB3
  try intro _
  go_upto_region 5 with fail
  change Code.wp _ _ _ _ (((w3.setCell ⟨g, 13, none⟩ (.int .i64 3)).setCell ⟨g, 14, none⟩ (.int .i64 0)).setCell ⟨g, 15, none⟩ (.string homeB))
  generalize (((w3.setCell ⟨g, 13, none⟩ (.int .i64 3)).setCell ⟨g, 14, none⟩ (.int .i64 0)).setCell ⟨g, 15, none⟩ (.string homeB)) = w4 at *
  have hB4 := below_then hB2 (Nat.le_refl _) HB24.out
  have hgo := go_calls runsM ⟨#[47]⟩ [] _ (.slice none 0 0) _ w4 HM.out (Sl.nil _ _ _) (by decide) (fun r hr => by simp [runsM] at hr; rcases hr with rfl | rfl <;> simp) (by decide) (HG.out.below hB4)
  rw [eval_m] at hgo
  have HGM := Lib.hid hgo
  clear hgo m5' m6' m7' f5 f6 f7
  go_wp2_with fail
  refine HGM.out.mono ?_
  rintro e w5 ⟨p', q', c', r', rfl, hp', hq', hc', hr', hb5⟩
  simp only [Place.zero] at hp' hq' hc' hr' ⊢
  obtain ⟨Ap', cp', rfl, -, -, -⟩ := hp'.form
  obtain ⟨Aq', cq', rfl, -, -, -⟩ := hq'.form
  obtain ⟨Ac', cc', rfl, -, -, -⟩ := hc'.form
  obtain ⟨Ar', cr', rfl, -, -, -⟩ := hr'.form
  have hB25 := below_then HB24.out (Nat.le_refl _) hb5
  have hal := below_alloc hB25 (Nat.le_refl _) (.cells #[.slice Ap' 0 cp', .slice Aq' 0 cq', .int .i64 0, .slice Ac' 0 cc', .slice Ar' 0 cr', .int .i64 0] 34)
  have HB26 := Lib.hid hal
  clear hb5 hB25 hal hp' hq' hc' hr' HGM HM
  go_upto_region 6 with fail
  change Code.wp _ _ _ _ (w5.alloc (.cells #[.slice Ap' 0 cp', .slice Aq' 0 cq', .int .i64 0, .slice Ac' 0 cc', .slice Ar' 0 cr', .int .i64 0] 34))
  generalize w5.alloc (.cells #[.slice Ap' 0 cp', .slice Aq' 0 cq', .int .i64 0, .slice Ac' 0 cc', .slice Ar' 0 cr', .int .i64 0] 34) = w6 at *
  have hB6 := below_then hB2 (Nat.le_refl _) HB26.out
  have hK6 := HBK.out.below HB26.out hz2
  obtain ⟨hp, hq, hc, hr⟩ := HPQ.out
  have hp6 := hp.below HB26.out
  have hq6 := hq.below HB26.out
  have HC6 := Lib.hid (hc.below HB26.out)
  have HR6 := Lib.hid (hr.below HB26.out)
  have HL6 := Lib.hid (HL2.out.below HB26.out)
  have HPr := Lib.hid (print_calls ⟨[shopB], []⟩ _ _ _ w6 hp6 hq6)
  have HP6 := Lib.hid hp6
  have k0 := hK6.cell 0
  have k1 := hK6.cell 1
  have k2 := hK6.cell 2
  have k5 := hK6.cell 5
  simp only [List.getElem?_cons_zero, List.getElem?_cons_succ] at k0 k1 k2 k5
  have HK6 := Lib.hid hK6
  clear hp hq hc hr hp6 hq6 hK6
  go_wp2_with fail
  refine HPr.out.mono ?_
  rw [eval_p]
  rintro e w7 ⟨rfl, hb7⟩
  have hB7 := below_then hB6 (Nat.le_refl _) hb7
  have hK7 := HK6.out.below hb7 HK6.out.lt
  have hKy := key_calls runsL [1] _ (.slice Ap 1 cp) (.slice Aq 0 cq) (.slice Ac 1 cc) (.slice Ar 0 cr) 1 1 0 (fun _ => True) w7 ((HL6.out.below hb7).mono (fun _ _ => trivial)) ((HC6.out.below hb7).mono (fun _ _ => trivial)) ((HR6.out.below hb7).mono (fun _ _ => trivial)) 1 (by decide) rfl (by decide) ⟨_, _, _, rfl⟩ ⟨_, _, _, rfl⟩ (by decide)
  rw [show (⟨#[47]⟩ ++ runsL[1].name : ByteArray) = ⟨#[47, 115, 104, 111, 112]⟩ from by kernel_rfl] at hKy
  have HKy := Lib.hid hKy
  have HL7 := Lib.hid (HL6.out.below hb7)
  have HC7 := Lib.hid (HC6.out.below hb7)
  have k0' := hK7.cell 0
  have k1' := hK7.cell 1
  have k2' := hK7.cell 2
  have k3' := hK7.cell 3
  have k4' := hK7.cell 4
  have k5' := hK7.cell 5
  simp only [List.getElem?_cons_zero, List.getElem?_cons_succ] at k0' k1' k2' k3' k4' k5'
  have HK7 := Lib.hid hK7
  clear hKy hK7 hb7 k0 k1 k2 k5
  go_wp2_with fail
  refine HKy.out.mono ?_
  rintro e w8 ⟨rfl, hb8⟩
  have hB8 := below_then hB7 (Nat.le_refl _) hb8
  have hK8 := HK7.out.below hb8 HK7.out.lt
  have HKz := Lib.hid (keyNone_calls runsL [1] _ (.slice Ap 1 cp) (.slice Aq 0 cq) (.slice Ac 1 cc) (.slice Ar 0 cr) 1 1 1 _ w8 (HL7.out.below hb8) ((HC7.out.below hb8).mono (fun b hb => Nat.le_trans (by omega) hb)) (by decide) ⟨_, _, _, rfl⟩ ⟨_, _, _, rfl⟩ ⟨_, _, _, rfl⟩ (by decide))
  have j0 := hK8.cell 0
  have j1 := hK8.cell 1
  have j2 := hK8.cell 2
  have j3 := hK8.cell 3
  have j4 := hK8.cell 4
  have j5 := hK8.cell 5
  simp only [List.getElem?_cons_zero, List.getElem?_cons_succ] at j0 j1 j2 j3 j4 j5
  clear hK8 hb8 k0' k1' k2' k3' k4' k5'
  go_wp2_with fail
  refine HKz.out.mono ?_
  rintro e w9 ⟨rfl, hb9⟩
  have hB9 := below_then hB8 (Nat.le_refl _) hb9
  go_wp2
  go_ret
  exact ⟨rfl, hB9⟩
end Go.Proofs.YtejbkjndipineaaGreatDoor
