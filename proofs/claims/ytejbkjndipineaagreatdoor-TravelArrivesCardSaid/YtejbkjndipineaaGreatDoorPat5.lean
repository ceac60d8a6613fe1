/- Walk of pattern.Build. -/
import Derived.Test.YtejbkjndipineaaGreatDoorPat4
namespace Go.Proofs.YtejbkjndipineaaGreatDoor
open Go Go.RowKit PR
set_option linter.unusedVariables false
set_option linter.unusedSimpArgs false
set_option maxHeartbeats 400000
set_option maxRecDepth 100000

/-- The path that tells parameters. -/
def buildS (l : List Seg) (params : List Pair) : List ByteArray × Bool :=
  if patR l = true ∧ (pathG params [] l).2 = true ∧ rightS ⟨(pathG params [] l).1, []⟩ = true ∧ (matchS l (pathG params [] l).1).2 = true ∧ alikeS (matchS l (pathG params [] l).1).1 params = true then ((pathG params [] l).1, true) else ([], false)

theorem rightS_path {ps : List ByteArray} (h : rightS ⟨ps, []⟩ = true) : ps.length ≤ 8 ∧ ∀ p ∈ ps, p.size ≤ 64 := by
  have := rightS_bd _ h
  exact ⟨this.1, this.2.2.1⟩

theorem build_calls (l : List Seg) (params : List Pair) (v q : Value) (B : Nat → Prop) (w : World) (hl : Sl eSeg w B v l) (hq : Sl ePairS w B q params) (hps : ∀ p ∈ params, p.value.size ≤ 16777216) (hg : GV w) :
    Calls Tryz.prog 38 #[v, q] w fun e w' => ∃ r, e = .returned (.tuple #[r, .bool (buildS l params).2]) ∧ Sl eStr w' (fun b => w.heap.size ≤ b) r (buildS l params).1 ∧ Below w.heap.size w w' := by
  have HR8 : Hid (patR l = true → l.length ≤ 8) := Lib.hid (fun h => by simp [patR] at h; exact h.1)
  have HB : Hid (∀ p m al rt pr, patR l = pr → pathG params [] l = p → rightS ⟨p.1, []⟩ = rt → matchS l p.1 = m → alikeS m.1 params = al → buildS l params = if pr = true ∧ p.2 = true ∧ rt = true ∧ m.2 = true ∧ al = true then (p.1, true) else ([], false)) := by
    refine Lib.hid ?_
    rintro p m al rt pr rfl rfl rfl rfl rfl
    rfl
  have HPS := Lib.hid hps
  have HG := Lib.hid hg
  clear hps hg
  obtain ⟨A, cap, rfl, hcap, hmax, -⟩ := hl.form
  obtain ⟨Aq, capq, rfl, -, -, -⟩ := hq.form
  go_enter Tryz.func38, Tryz.ntmps38
  go_wp2_with fail
  refine (patRight_calls l _ B _ hl).mono ?_
  rintro e w1 ⟨rfl, hb1⟩
  cases hr : patR l with
  | false =>
    have HM := Lib.hid (show buildS l params = ([], false) by rw [HB.out _ _ _ _ _ hr rfl rfl rfl rfl]; simp)
    clear hr
    go_wp2
    go_ret2
    exact ⟨_, by rw [HM.out]; rfl, by rw [HM.out]; exact Sl.nil _ _ _, hb1⟩
  | true =>
    have h8 := HR8.out hr
    have HR := Lib.hid hr
    clear hr HR8
    go_wp2_with fail
    refine (patPath_calls l params _ _ B _ (hl.below hb1) (hq.below hb1) h8 HPS.out (HG.out.below hb1)).mono ?_
    rintro e w2 ⟨ov, rfl, ho, hb2⟩
    have hB2 := below_then hb1 (Nat.le_refl _) hb2
    cases hp : pathG params [] l with
    | mk out ok =>
    rw [hp] at ho
    have HP := Lib.hid hp
    clear hp hb2
    simp only at ho ⊢
    obtain ⟨Ao, capo, rfl, -, -, -⟩ := ho.form
    cases ok with
    | false =>
      have HM := Lib.hid (show buildS l params = ([], false) by rw [HB.out _ _ _ _ _ rfl HP.out rfl rfl rfl]; simp)
      go_wp2
      go_ret2
      exact ⟨_, by rw [HM.out]; rfl, by rw [HM.out]; exact Sl.nil _ _ _, hB2⟩
    | true =>
      go_wp2_with fail
      refine (right_calls ⟨out, []⟩ _ _ (fun b => True) _ (ho.mono (fun _ _ => trivial)) (Sl.nil _ _ _)).mono ?_
      rintro e w3 ⟨rfl, hb3⟩
      have hB3 := below_then hB2 (Nat.le_refl _) hb3
      cases hrt : rightS ⟨out, []⟩ with
      | false =>
        have HM := Lib.hid (show buildS l params = ([], false) by rw [HB.out _ _ _ _ _ rfl HP.out hrt rfl rfl]; simp)
        clear hrt
        go_wp2
        go_ret2
        exact ⟨_, by rw [HM.out]; rfl, by rw [HM.out]; exact Sl.nil _ _ _, hB3⟩
      | true =>
        obtain ⟨ho8, hop⟩ := rightS_path hrt
        have HRT := Lib.hid hrt
        have HOP := Lib.hid hop
        clear hrt hop
        have ho3 := ho.below hb3
        go_wp2_with fail
        refine (match_calls l out _ _ (fun _ => True) _ ((hl.below hB3).mono (fun _ _ => trivial)) (ho3.mono (fun _ _ => trivial)) (by omega) (fun p hp => by have := HOP.out p hp; omega)).mono ?_
        rintro e w4 ⟨mv, rfl, hm, hb4⟩
        have hB4 := below_then hB3 (Nat.le_refl _) hb4
        have ho4 := ho3.below hb4
        cases hmm : matchS l out with
        | mk ms mk =>
        rw [hmm] at hm
        have HMM := Lib.hid hmm
        clear hmm
        simp only at hm ⊢
        obtain ⟨Am, capm, rfl, -, -, -⟩ := hm.form
        cases mk with
        | false =>
          have HM := Lib.hid (show buildS l params = ([], false) by rw [HB.out _ _ _ _ _ rfl HP.out rfl HMM.out rfl]; simp)
          go_wp2
          go_ret2
          exact ⟨_, by rw [HM.out]; rfl, by rw [HM.out]; exact Sl.nil _ _ _, hB4⟩
        | true =>
          go_wp2_with fail
          refine (alike_calls ms params _ _ (fun _ => True) _ (hm.mono (fun _ _ => trivial)) ((hq.below hB4).mono (fun _ _ => trivial))).mono ?_
          rintro e w5 ⟨rfl, hb5⟩
          have hB5 := below_then hB4 (Nat.le_refl _) hb5
          have ho5 := ho4.below hb5
          cases hal : alikeS ms params with
          | false =>
            have HM := Lib.hid (show buildS l params = ([], false) by rw [HB.out _ _ _ _ _ rfl HP.out rfl HMM.out hal]; simp)
            clear hal
            go_wp2
            go_ret2
            exact ⟨_, by rw [HM.out]; rfl, by rw [HM.out]; exact Sl.nil _ _ _, hB5⟩
          | true =>
            have HM := Lib.hid (show buildS l params = (out, true) by rw [HB.out _ _ _ _ _ HR.out HP.out HRT.out HMM.out hal]; simp)
            clear hal
            go_wp2
            go_ret2
            exact ⟨_, by rw [HM.out]; rfl, by rw [HM.out]; exact ho5.mono (fun b hb => Nat.le_trans hb1.size hb), hB5⟩
end Go.Proofs.YtejbkjndipineaaGreatDoor
