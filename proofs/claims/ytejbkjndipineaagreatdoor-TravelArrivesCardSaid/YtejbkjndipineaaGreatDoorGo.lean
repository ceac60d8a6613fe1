/- Walk of travel.Go. -/
import Derived.Test.YtejbkjndipineaaGreatDoorRes
import Derived.Test.YtejbkjndipineaaGreatDoorRule
import Derived.Test.YtejbkjndipineaaGreatDoorUrl3
import Derived.Laws.ResultCell
namespace Go.Proofs.YtejbkjndipineaaGreatDoor
open Go Go.RowKit PR
set_option linter.unusedVariables false
set_option linter.unusedSimpArgs false
set_option maxHeartbeats 400000
set_option maxRecDepth 100000

structure Place where
  url : URL
  id : Int
  chain : List Int
  params : List Pair
  hops : Int
def Place.zero : Place := ⟨⟨[], []⟩, 0, [], [], 0⟩
/-- A URL followed, with so many redirects still to come. -/
def goS (l : List Record) (fl : List Bool) : Nat → Int → URL → Place × Int
  | n, hops, u =>
    if (resolveS l u.path).2.2 = false then (.zero, 2)
    else if (allS fl 0 ((chainS l (resolveS l u.path).1).map (ruleAt l))).1 = 0 then (⟨u, (resolveS l u.path).1, chainS l (resolveS l u.path).1, (resolveS l u.path).2.1, hops⟩, 0)
    else if (allS fl 0 ((chainS l (resolveS l u.path).1).map (ruleAt l))).1 = 1 then (.zero, 3)
    else match n with
      | 0 => (.zero, 4)
      | n + 1 =>
        if (reverseS l (allS fl 0 ((chainS l (resolveS l u.path).1).map (ruleAt l))).2.1 []).2 = false then (.zero, 2)
        else goS l fl n (hops + 1) ⟨(reverseS l (allS fl 0 ((chainS l (resolveS l u.path).1).map (ruleAt l))).2.1 []).1, []⟩
/-- Go to a URL's text. -/
def travelS (l : List Record) (s : ByteArray) (fl : List Bool) : Place × Int := if (parseS s).2 ≠ 0 then (.zero, (parseS s).2) else goS l fl 5 0 (parseS s).1

def PathOk (u : URL) : Prop := u.path.length ≤ 8 ∧ ∀ p ∈ u.path, p.size ≤ 64
theorem parseF_ok (p : List ByteArray) (q : List Pair × Bool) : PathOk (parseF p q).1 ∧ ((parseF p q).2 = 0 ∨ (parseF p q).2 = 1) := by
  unfold parseF
  split
  · next h =>
    have := rightS_bd _ h.2
    exact ⟨⟨this.1, this.2.2.1⟩, .inl rfl⟩
  · exact ⟨⟨by simp, by simp⟩, .inr rfl⟩
theorem parse_ok (s : ByteArray) : PathOk (parseS s).1 := (parseF_ok _ _).1
theorem parse_err (s : ByteArray) : (parseS s).2 = 0 ∨ (parseS s).2 = 1 := (parseF_ok _ _).2
theorem reverse_ok (l : List Record) (s : ByteArray) (ps : List Pair) : PathOk ⟨(reverseS l s ps).1, []⟩ := by
  unfold reverseS
  split
  · exact ⟨by simp, by simp⟩
  · split
    · unfold buildS
      split
      · next h => exact rightS_path h.2.2.1
      · exact ⟨by simp, by simp⟩
    · exact ⟨by simp, by simp⟩
theorem place_six {w w3 : World} (h : Below w.heap.size w w3) (a b c d e f : Value) : Below w.heap.size w ((((((w3.setCell ⟨w.heap.size, 0, none⟩ a).setCell ⟨w.heap.size, 1, none⟩ b).setCell ⟨w.heap.size, 2, none⟩ c).setCell ⟨w.heap.size, 3, none⟩ d).setCell ⟨w.heap.size, 4, none⟩ e).setCell ⟨w.heap.size, 5, none⟩ f) :=
  have hc : Ch (fun k => k = w.heap.size) w3 _ := (((((((Ch.refl (fun k => k = w.heap.size) w3).setCell ⟨w.heap.size, 0, none⟩ a (fun _ => rfl)).setCell ⟨w.heap.size, 1, none⟩ b (fun _ => rfl)).setCell ⟨w.heap.size, 2, none⟩ c (fun _ => rfl)).setCell ⟨w.heap.size, 3, none⟩ d (fun _ => rfl)).setCell ⟨w.heap.size, 4, none⟩ e (fun _ => rfl)).setCell ⟨w.heap.size, 5, none⟩ f (fun _ => rfl))
  h.trans (hc.below h.size (fun k hk e => by omega))
theorem place_six_ch {w w3 : World} (a b c d e f : Value) : Ch (fun k => k = w.heap.size) w3 ((((((w3.setCell ⟨w.heap.size, 0, none⟩ a).setCell ⟨w.heap.size, 1, none⟩ b).setCell ⟨w.heap.size, 2, none⟩ c).setCell ⟨w.heap.size, 3, none⟩ d).setCell ⟨w.heap.size, 4, none⟩ e).setCell ⟨w.heap.size, 5, none⟩ f) :=
  (((((((Ch.refl (fun k => k = w.heap.size) w3).setCell ⟨w.heap.size, 0, none⟩ a (fun _ => rfl)).setCell ⟨w.heap.size, 1, none⟩ b (fun _ => rfl)).setCell ⟨w.heap.size, 2, none⟩ c (fun _ => rfl)).setCell ⟨w.heap.size, 3, none⟩ d (fun _ => rfl)).setCell ⟨w.heap.size, 4, none⟩ e (fun _ => rfl)).setCell ⟨w.heap.size, 5, none⟩ f (fun _ => rfl))
theorem place_cells {w : World} {b t : Nat} (h : Blk w b [.slice none 0 0, .slice none 0 0, .int .i64 0, .slice none 0 0, .slice none 0 0, .int .i64 0] t) :
    (w.cell? ⟨b, 0, none⟩ = some (.slice none 0 0) ∧ w.cell? ⟨b, 1, none⟩ = some (.slice none 0 0) ∧ w.cell? ⟨b, 2, none⟩ = some (.int .i64 0) ∧ w.cell? ⟨b, 3, none⟩ = some (.slice none 0 0) ∧ w.cell? ⟨b, 4, none⟩ = some (.slice none 0 0) ∧ w.cell? ⟨b, 5, none⟩ = some (.int .i64 0)) ∧
    w.frozen? ⟨b, 0, none⟩ = false ∧ w.frozen? ⟨b, 1, none⟩ = false ∧ w.frozen? ⟨b, 2, none⟩ = false ∧ w.frozen? ⟨b, 3, none⟩ = false ∧ w.frozen? ⟨b, 4, none⟩ = false ∧ w.frozen? ⟨b, 5, none⟩ = false :=
  ⟨⟨h.cell 0, h.cell 1, h.cell 2, h.cell 3, h.cell 4, h.cell 5⟩, h.frozen 0, h.frozen 1, h.frozen 2, h.frozen 3, h.frozen 4, h.frozen 5⟩

set_option maxHeartbeats 4000000 in
theorem go_calls (l : List Record) (s : ByteArray) (fl : List Bool) (v fv : Value) (B : Nat → Prop) (w : World) (hl : Sl eRecord w B v l) (hf : Sl eBool w B fv fl) (hs : s.size ≤ 16777216) (hsg : ∀ r ∈ l, r.segs.length ≤ 65536) (hl16 : l.length ≤ 4096) (hg : GV w) :
    Calls Tryz.prog 6 #[v, .string s, fv] w fun e w' => ∃ p q c r, e = .returned (.tuple #[.agg #[p, q, .int .i64 (travelS l s fl).1.id, c, r, .int .i64 (travelS l s fl).1.hops], .int .i64 (travelS l s fl).2]) ∧
      Sl eStr w' (fun b => w.heap.size ≤ b) p (travelS l s fl).1.url.path ∧ Sl ePairS w' (fun b => w.heap.size ≤ b) q (travelS l s fl).1.url.query ∧ Sl (eInt .i64) w' (fun b => w.heap.size ≤ b) c (travelS l s fl).1.chain ∧ Sl ePairS w' (fun b => w.heap.size ≤ b) r (travelS l s fl).1.params ∧ Below w.heap.size w w' := by
  obtain ⟨A, cap, rfl, -, -, -⟩ := hl.form
  obtain ⟨Af, capf, rfl, -, -, -⟩ := hf.form
  have hal : Below w.heap.size w (w.alloc (.cells #[.slice none 0 0, .slice none 0 0, .int .i64 0, .slice none 0 0, .slice none 0 0, .int .i64 0] 34)) := below_alloc (Below.refl _ _) (Nat.le_refl _) _
  have hbr : Blk (w.alloc (.cells #[.slice none 0 0, .slice none 0 0, .int .i64 0, .slice none 0 0, .slice none 0 0, .int .i64 0] 34)) w.heap.size [.slice none 0 0, .slice none 0 0, .int .i64 0, .slice none 0 0, .slice none 0 0, .int .i64 0] 34 := Blk.new w _ _
  have hz1 : (w.alloc (.cells #[.slice none 0 0, .slice none 0 0, .int .i64 0, .slice none 0 0, .slice none 0 0, .int .i64 0] 34)).heap.size = w.heap.size + 1 := by simp
  have HAL := Lib.hid (And.intro hal (And.intro hbr hz1))
  have HG := Lib.hid hg
  have HSG := Lib.hid hsg
  have hP := parse_calls s _ hs (hg.below hal)
  have HP := Lib.hid hP
  clear hP hg hsg hal hbr hz1
  go_enter Tryz.func6, Tryz.ntmps6
  go_wp2_with fail
  refine HP.out.mono ?_
  rintro e w2 ⟨p, q, rfl, hp, hq, hb2⟩
  obtain ⟨Ap, capp, rfl, -, -, -⟩ := hp.form
  obtain ⟨Aq, capq, rfl, -, -, -⟩ := hq.form
  obtain ⟨hal, hbr, hz1⟩ := HAL.out
  have hB2 := below_then hal (Nat.le_refl _) hb2
  have hbr2 := hbr.below hb2 hbr.lt
  have hz2 := hb2.size
  rw [hz1] at hz2 hp hq
  have HBU := Lib.hid (Blk.new w2 [.slice Ap (parseS s).1.path.length capp, .slice Aq (parseS s).1.query.length capq] 32)
  have HBR := Lib.hid (hbr2.alloc (.cells #[.slice Ap (parseS s).1.path.length capp, .slice Aq (parseS s).1.query.length capq] 32))
  have HSP := Lib.hid (hp.low.below (below_alloc (Below.refl _ _) (Nat.le_refl _) (.cells #[.slice Ap (parseS s).1.path.length capp, .slice Aq (parseS s).1.query.length capq] 32)))
  have HSQ := Lib.hid (hq.low.below (below_alloc (Below.refl _ _) (Nat.le_refl _) (.cells #[.slice Ap (parseS s).1.path.length capp, .slice Aq (parseS s).1.query.length capq] 32)))
  have HB3 := Lib.hid (below_alloc hB2 (Nat.le_refl _) (.cells #[.slice Ap (parseS s).1.path.length capp, .slice Aq (parseS s).1.query.length capq] 32))
  have hz3 : (w2.alloc (.cells #[.slice Ap (parseS s).1.path.length capp, .slice Aq (parseS s).1.query.length capq] 32)).heap.size = w2.heap.size + 1 := by simp
  have HTR := Lib.hid (show travelS l s fl = if (parseS s).2 ≠ 0 then (.zero, (parseS s).2) else goS l fl 5 0 (parseS s).1 from rfl)
  have HPO := Lib.hid (parse_ok s)
  clear hal hbr hz1 hbr2 hb2 HP HAL hp hq hB2
  have hpe := parse_err s
  generalize hps : parseS s = ps at *
  obtain ⟨u, e⟩ := ps
  have HPS := Lib.hid hps
  simp only at *
  clear hps
  go_upto_if 25 with fail
  generalize w2.alloc (.cells #[.slice Ap u.path.length capp, .slice Aq u.query.length capq] 32) = w3 at *
  generalize hub : w2.heap.size = ub at *
  have HUB := Lib.hid hub
  clear hub
  rcases hpe with rfl | rfl
  · have HT0 := Lib.hid (show travelS l s fl = goS l fl 5 0 u by rw [HTR.out]; simp)
    clear HTR HPS
    go_wp2
    go_loopw [10] (fun hv wr => ∃ (k : Nat) (u' : URL) (p q : Value), hv = .int .i64 k ∧ k ≤ 5 ∧ Hid (Blk wr ub [p, q] 32) ∧ Hid (Sl eStr wr (fun b => w.heap.size < b ∧ b ≠ ub) p u'.path) ∧ Hid (Sl ePairS wr (fun b => w.heap.size < b ∧ b ≠ ub) q u'.query) ∧ Hid (Blk wr w.heap.size [.slice none 0 0, .slice none 0 0, .int .i64 0, .slice none 0 0, .slice none 0 0, .int .i64 0] 34) ∧ Below w.heap.size w wr ∧ Hid (PathOk u') ∧ Hid (goS l fl (5 - k) k u' = travelS l s fl)) (fun hv _ => 6 - (intOf hv).toNat)
    case atStart => exact ⟨0, u, _, _, rfl, by omega, HBU, Lib.hid (HSP.out.mono (fun b hb => by omega)), Lib.hid (HSQ.out.mono (fun b hb => by omega)), HBR, HB3.out, HPO, Lib.hid HT0.out.symm⟩
    case round =>
      obtain ⟨k, u', p, q, rfl, hk, HU, HP, HQ, HR, hB, HPK, HGO⟩ := hrel
      obtain ⟨wo, rfl⟩ : ∃ wo : World, wo = wr := ⟨_, rfl⟩
      obtain ⟨Ap', capp', rfl, -, -, -⟩ := HP.out.form
      obtain ⟨Aq', capq', rfl, -, -, -⟩ := HQ.out.form
      clear HBU HSP HSQ HBR HB3 HPO HT0
      have hlo := (hl.below hB).mono (B' := fun _ => True) (fun _ _ => trivial)
      have hfo := (hf.below hB).mono (B' := fun _ => True) (fun _ _ => trivial)
      have hpz := HPK.out
      have hRes := resolve_calls l u'.path _ _ (fun _ => True) wo hlo (HP.out.mono (fun _ _ => trivial)) HSG.out (by have := hpz.1; omega) (fun x hx => by have := hpz.2 x hx; omega)
      have HRes := Lib.hid hRes
      have HLO := Lib.hid hlo
      have HFO := Lib.hid hfo
      have c0 := HU.out.cell 0
      have c1 := HU.out.cell 1
      simp only [List.getElem?_cons_zero, List.getElem?_cons_succ] at c0 c1
      have hul : ub < wo.heap.size := HU.out.lt
      have hzo := hB.size
      clear hRes hlo hfo hpz
      go_wp2_with fail
      refine HRes.out.mono ?_
      rintro e w4 ⟨r, rfl, hr, hb4⟩
      obtain ⟨Ar, capr, rfl, -, -, -⟩ := hr.form
      have hB4 := below_then hB (Nat.le_refl _) hb4
      have HGD : Hid (∀ R, resolveS l u'.path = R → goS l fl (5 - k) k u' = if R.2.2 = false then (.zero, 2)
        else if (allS fl 0 ((chainS l R.1).map (ruleAt l))).1 = 0 then (⟨u', R.1, chainS l R.1, R.2.1, k⟩, 0)
        else if (allS fl 0 ((chainS l R.1).map (ruleAt l))).1 = 1 then (.zero, 3)
        else match 5 - k with
          | 0 => (.zero, 4)
          | n + 1 =>
            if (reverseS l (allS fl 0 ((chainS l R.1).map (ruleAt l))).2.1 []).2 = false then (.zero, 2)
            else goS l fl n ((k : Int) + 1) ⟨(reverseS l (allS fl 0 ((chainS l R.1).map (ruleAt l))).2.1 []).1, []⟩) := Lib.hid (fun R hR => by subst hR; rw [goS.eq_def])
      generalize hRR : resolveS l u'.path = R at *
      have HGR := Lib.hid (HGD.out R rfl)
      clear HGD hRR
      obtain ⟨id, prm, ok⟩ := R
      simp only at hr ⊢
      have HR4 := Lib.hid (HR.out.below hb4 HR.out.lt)
      have HU4 := Lib.hid (HU.out.below hb4 HU.out.lt)
      cases ok with
      | false =>
        have HZ := Lib.hid (show travelS l s fl = (.zero, 2) by rw [← HGO.out, HGR.out]; simp)
        clear HGR c0 c1
        obtain ⟨⟨r0, r1, r2, r3, r4, r5⟩, q0, q1, q2, q3, q4, q5⟩ := place_cells HR4.out
        go_wp2
        (try simp only [Exit.inBlock, Exit.then])
        refine bodyPost_ret (v := .tuple #[.agg #[.slice none 0 0, .slice none 0 0, .int .i64 0, .slice none 0 0, .slice none 0 0, .int .i64 0], .int .i64 2]) ?_ rfl ?_
        · rw [results_cell_tmp rfl]
          go_simp
        · rw [HZ.out]
          exact ⟨_, _, _, _, rfl, Sl.nil _ _ _, Sl.nil _ _ _, Sl.nil _ _ _, Sl.nil _ _ _, place_six hB4 _ _ _ _ _ _⟩
      | true =>
        have HGR2 := HGR.out
        simp only [Bool.true_eq_false, if_false] at HGR2
        have HC := Lib.hid (chain_calls l _ (fun _ => True) w4 id (HLO.out.below hb4) hl16)
        have HL4 := Lib.hid (HLO.out.below hb4)
        have HF4 := Lib.hid (HFO.out.below hb4)
        have HRR := Lib.hid hr
        have HB04 := Lib.hid hb4
        have hz4 := hb4.size
        have HGR2 := Lib.hid HGR2
        clear HGR hr hb4 c0 c1
        go_wp2_with fail
        refine HC.out.mono ?_
        rintro e w5 ⟨cv, rfl, hcv, hb5⟩
        obtain ⟨Ac, capc, rfl, -, -, -⟩ := hcv.form
        have hB5 := below_then hB4 (Nat.le_refl _) hb5
        have hz5 := hb5.size
        have HRu := Lib.hid (rules_calls l (chainS l id) _ _ (fun _ => True) w5 (HL4.out.below hb5) (hcv.mono (fun _ _ => trivial)) (Nat.le_trans (chainS_len l id) hl16) (fun x hx => chainS_mem hx))
        have HL5 := Lib.hid (HL4.out.below hb5)
        have HF5 := Lib.hid (HF4.out.below hb5)
        have HCV := Lib.hid hcv
        have HB45 := Lib.hid hb5
        clear hcv hb5
        go_wp2_with fail
        refine HRu.out.mono ?_
        rintro e w6 ⟨rv, rfl, hrv, hb6⟩
        obtain ⟨Arv, caprv, rfl, -, -, -⟩ := hrv.form
        rw [List.length_map] at hrv
        have hB6 := below_then hB5 (Nat.le_refl _) hb6
        have hz6 := hb6.size
        have HA := Lib.hid (all_calls ((chainS l id).map (ruleAt l)) fl _ _ (fun _ => True) w6 (hrv.mono (fun _ _ => trivial)) (HF5.out.below hb6))
        have HB56 := Lib.hid hb6
        have HB46 := Lib.hid (below_then HB45.out (Nat.le_refl _) hb6)
        clear hrv hb6
        go_wp2_with fail
        refine HA.out.mono ?_
        rintro e w7 ⟨rfl, hb7⟩
        have hB7 := below_then hB6 (Nat.le_refl _) hb7
        have hz7 := hb7.size
        have HB47 := Lib.hid (below_then HB46.out (Nat.le_refl _) hb7)
        have HB07 := Lib.hid (below_then HB04.out (Nat.le_refl _) HB47.out)
        have hcl : (chainS l id).length ≤ 4096 := Nat.le_trans (chainS_len l id) hl16
        have HCV7 := Lib.hid (HCV.out.below (below_then HB56.out (Nat.le_refl _) hb7))
        generalize allS fl 0 ((chainS l id).map (ruleAt l)) = S at *
        obtain ⟨a, toN, an⟩ := S
        have HR7 := Lib.hid (HR4.out.below HB47.out HR4.out.lt)
        have HU7 := Lib.hid (HU4.out.below HB47.out HU4.out.lt)
        have HP7 := Lib.hid (HP.out.below HB07.out)
        have HQ7 := Lib.hid (HQ.out.below HB07.out)
        have HRR7 := Lib.hid (HRR.out.below HB47.out)
        have HL7 := Lib.hid (HL4.out.below HB47.out)
        have HGV7 := Lib.hid (HG.out.below hB7)
        have hG3 := HGR2.out
        simp only at hG3 ⊢
        clear hb7 HRu HA HC HRes HGR2
        by_cases ha0 : a = 0
        · subst ha0
          have hG4 : travelS l s fl = (⟨u', id, chainS l id, prm, k⟩, 0) := by rw [← HGO.out, hG3]; simp
          have HZ := Lib.hid hG4
          have u0 := HU7.out.cell 0
          have u1 := HU7.out.cell 1
          simp only [List.getElem?_cons_zero, List.getElem?_cons_succ] at u0 u1
          clear hG3 hG4
          obtain ⟨⟨r0, r1, r2, r3, r4, r5⟩, q0, q1, q2, q3, q4, q5⟩ := place_cells HR7.out
          generalize (chainS l id).length = nch at *
          go_wp2
          (try simp only [Exit.inBlock, Exit.then])
          refine bodyPost_ret (v := .tuple #[.agg #[.slice Ap' u'.path.length capp', .slice Aq' u'.query.length capq', .int .i64 id, .slice Ac nch capc, .slice Ar prm.length capr, .int .i64 k], .int .i64 0]) ?_ rfl ?_
          · rw [results_cell_tmp rfl]
            go_simp
          · rw [HZ.out]
            have hc6 := place_six_ch (w := w) (w3 := w7) (.slice Ap' u'.path.length capp') (.slice Aq' u'.query.length capq') (.int .i64 id) (.slice Ac nch capc) (.slice Ar prm.length capr) (.int .i64 k)
            exact ⟨_, _, _, _, rfl, (HP7.out.ch hc6 (fun b hb e => by omega)).mono (fun b hb => by omega), (HQ7.out.ch hc6 (fun b hb e => by omega)).mono (fun b hb => by omega), (HCV7.out.ch hc6 (fun b hb e => by omega)).mono (fun b hb => by omega), (HRR7.out.ch hc6 (fun b hb e => by omega)).mono (fun b hb => by omega), place_six hB7 _ _ _ _ _ _⟩
        · have e0 : (a == 0) = false := beq_eq_false_iff_ne.2 ha0
          rw [if_neg ha0] at hG3
          by_cases ha1 : a = 1
          · subst ha1
            have HZ := Lib.hid (show travelS l s fl = (.zero, 3) by rw [← HGO.out, hG3]; simp)
            clear hG3 ha0 e0
            obtain ⟨⟨r0, r1, r2, r3, r4, r5⟩, q0, q1, q2, q3, q4, q5⟩ := place_cells HR7.out
            go_wp2
            (try simp only [Exit.inBlock, Exit.then])
            refine bodyPost_ret (v := .tuple #[.agg #[.slice none 0 0, .slice none 0 0, .int .i64 0, .slice none 0 0, .slice none 0 0, .int .i64 0], .int .i64 3]) ?_ rfl ?_
            · rw [results_cell_tmp rfl]
              go_simp
            · rw [HZ.out]
              exact ⟨_, _, _, _, rfl, Sl.nil _ _ _, Sl.nil _ _ _, Sl.nil _ _ _, Sl.nil _ _ _, place_six hB7 _ _ _ _ _ _⟩
          · have e1 : (a == 1) = false := beq_eq_false_iff_ne.2 ha1
            rw [if_neg ha1] at hG3
            clear ha0 ha1
            by_cases hk5 : k = 5
            · subst hk5
              have HZ := Lib.hid (show travelS l s fl = (.zero, 4) by rw [← HGO.out, hG3]; rfl)
              clear hG3
              obtain ⟨⟨r0, r1, r2, r3, r4, r5⟩, q0, q1, q2, q3, q4, q5⟩ := place_cells HR7.out
              go_wp2
              (try simp only [Exit.inBlock, Exit.then])
              refine bodyPost_ret (v := .tuple #[.agg #[.slice none 0 0, .slice none 0 0, .int .i64 0, .slice none 0 0, .slice none 0 0, .int .i64 0], .int .i64 4]) ?_ rfl ?_
              · rw [results_cell_tmp rfl]
                go_simp
              · rw [HZ.out]
                exact ⟨_, _, _, _, rfl, Sl.nil _ _ _, Sl.nil _ _ _, Sl.nil _ _ _, Sl.nil _ _ _, place_six hB7 _ _ _ _ _ _⟩
            · have e5 : ((k : Int) == 5) = false := beq_eq_false_iff_ne.2 (by omega)
              obtain ⟨n, hn⟩ : ∃ n, 5 - k = n + 1 := ⟨4 - k, by omega⟩
              rw [hn] at hG3
              simp only at hG3
              have HG3 := Lib.hid hG3
              have HN := Lib.hid hn
              have hk4 : k ≤ 4 := by omega
              have HRv := Lib.hid (reverseR_calls l [] _ _ (fun _ => True) w7 toN HL7.out (Sl.nil _ _ _) HSG.out (fun p hp => by simp at hp) HGV7.out)
              have HRO := Lib.hid (reverse_ok l toN [])
              clear hG3 hn hk5
              go_wp2_with fail
              refine HRv.out.mono ?_
              rintro e w8 ⟨pv, rfl, hpv, hb8⟩
              have hB8 := below_then hB7 (Nat.le_refl _) hb8
              have HR8 := Lib.hid (HR7.out.below hb8 HR7.out.lt)
              have HU8 := Lib.hid (HU7.out.below hb8 HU7.out.lt)
              have hz8 := hb8.size
              clear hb8 HRv
              generalize reverseS l toN [] = RV at *
              obtain ⟨pth, ok2⟩ := RV
              simp only at hpv ⊢
              obtain ⟨Av, capv, rfl, -, -, -⟩ := hpv.form
              cases ok2 with
              | false =>
                have HZ := Lib.hid (show travelS l s fl = (.zero, 2) by rw [← HGO.out, HN.out, HG3.out]; simp)
                obtain ⟨⟨r0, r1, r2, r3, r4, r5⟩, q0, q1, q2, q3, q4, q5⟩ := place_cells HR8.out
                go_wp2
                (try simp only [Exit.inBlock, Exit.then])
                refine bodyPost_ret (v := .tuple #[.agg #[.slice none 0 0, .slice none 0 0, .int .i64 0, .slice none 0 0, .slice none 0 0, .int .i64 0], .int .i64 2]) ?_ rfl ?_
                · rw [results_cell_tmp rfl]
                  go_simp
                · rw [HZ.out]
                  exact ⟨_, _, _, _, rfl, Sl.nil _ _ _, Sl.nil _ _ _, Sl.nil _ _ _, Sl.nil _ _ _, place_six hB8 _ _ _ _ _ _⟩
              | true =>
                have HGN := Lib.hid (show goS l fl (5 - (k + 1)) ((k + 1 : Nat) : Int) ⟨pth, []⟩ = travelS l s fl by
                  have h1 : 5 - (k + 1) = n := by have := HN.out; omega
                  rw [h1, ← HGO.out, HN.out, HG3.out]
                  simp)
                have HPV := Lib.hid hpv
                have u0 := HU8.out.cell 0
                have u1 := HU8.out.cell 1
                have v0 := HU8.out.frozen 0
                have v1 := HU8.out.frozen 1
                simp only [List.getElem?_cons_zero, List.getElem?_cons_succ] at u0 u1
                have hcu : Ch (fun b => b = ub) w8 ((w8.setCell ⟨ub, 0, none⟩ (.slice Av pth.length capv)).setCell ⟨ub, 1, none⟩ (.slice none 0 0)) := ((Ch.refl (fun b => b = ub) w8).setCell ⟨ub, 0, none⟩ _ (fun _ => rfl)).setCell ⟨ub, 1, none⟩ _ (fun _ => rfl)
                have HU9 := Lib.hid ((HU8.out.set 0 (.slice Av pth.length capv)).set 1 (.slice none 0 0))
                have HR9 := Lib.hid (HR8.out.ch hcu (by omega))
                have HP9 := Lib.hid ((hpv.ch hcu (fun b hb e => by omega)).mono (B' := fun b => w.heap.size < b ∧ b ≠ ub) (fun b hb => by omega))
                have HB9 := Lib.hid (hB8.trans (hcu.below hB8.size (fun b hb e => by omega)))
                clear hpv hcu
                go_wp2
                go_roundw
                case rel => exact ⟨k + 1, by omega, by omega, ⟨pth, []⟩, _, .slice none 0 0, HU9, HP9, Lib.hid (Sl.nil _ _ _), HB9.out, HRO, HGN⟩
                case measure => simp [intOf]; omega
  · have HZ := Lib.hid (show travelS l s fl = (.zero, 1) by rw [HTR.out]; simp)
    clear HTR
    obtain ⟨⟨r0, r1, r2, r3, r4, r5⟩, q0, q1, q2, q3, q4, q5⟩ := place_cells HBR.out
    go_wp2
    (try simp only [Exit.inBlock, Exit.then])
    refine bodyPost_ret (v := .tuple #[.agg #[.slice none 0 0, .slice none 0 0, .int .i64 0, .slice none 0 0, .slice none 0 0, .int .i64 0], .int .i64 1]) ?_ rfl ?_
    · rw [results_cell_tmp rfl]
      go_simp
    · rw [HZ.out]
      exact ⟨_, _, _, _, rfl, Sl.nil _ _ _, Sl.nil _ _ _, Sl.nil _ _ _, Sl.nil _ _ _, place_six HB3.out _ _ _ _ _ _⟩
end Go.Proofs.YtejbkjndipineaaGreatDoor
