/- Walk of route.Reverse. -/
import Derived.Test.YtejbkjndipineaaGreatDoorRoute5
import Derived.Test.YtejbkjndipineaaGreatDoorPat5
namespace Go.Proofs.YtejbkjndipineaaGreatDoor
open Go Go.RowKit PR
set_option linter.unusedVariables false
set_option linter.unusedSimpArgs false
set_option maxHeartbeats 400000
set_option maxRecDepth 100000

/-- A name's path. -/
def reverseS (l : List Record) (s : ByteArray) (ps : List Pair) : List ByteArray × Bool :=
  if namedR l s < 0 then ([], false) else if rightRec l = true then buildS (fullS l (namedR l s)) ps else ([], false)
theorem rightRec_len {l : List Record} (h : rightRec l = true) : l.length ≤ 16 := by
  simp [rightRec] at h
  exact h.1.2

theorem reverseR_calls (l : List Record) (ps : List Pair) (v q : Value) (B : Nat → Prop) (w : World) (s : ByteArray) (hl : Sl eRecord w B v l) (hq : Sl ePairS w B q ps) (hsg : ∀ r ∈ l, r.segs.length ≤ 65536) (hps : ∀ p ∈ ps, p.value.size ≤ 16777216) (hg : GV w) :
    Calls Tryz.prog 19 #[v, .string s, q] w fun e w' => ∃ r, e = .returned (.tuple #[r, .bool (reverseS l s ps).2]) ∧ Sl eStr w' (fun b => w.heap.size ≤ b) r (reverseS l s ps).1 ∧ Below w.heap.size w w' := by
  obtain ⟨A, cap, rfl, hcap, hmax, -⟩ := hl.form
  obtain ⟨Aq, capq, rfl, -, -, -⟩ := hq.form
  have HSG := Lib.hid hsg
  have HPS := Lib.hid hps
  have HG := Lib.hid hg
  have HU : Hid (reverseS l s ps = if namedR l s < 0 then ([], false) else if rightRec l = true then buildS (fullS l (namedR l s)) ps else ([], false)) := Lib.hid rfl
  have HRL : Hid (rightRec l = true → l.length ≤ 16) := Lib.hid rightRec_len
  clear hsg hps hg
  go_enter Tryz.func19, Tryz.ntmps19
  go_wp2_with fail
  refine (namedR_calls l _ B _ s hl).mono ?_
  rintro e w1 ⟨rfl, hb1⟩
  generalize namedR l s = i at *
  by_cases hi : i < 0
  · have d1 : decide (i < 0) = true := decide_eq_true hi
    have HM := Lib.hid (show reverseS l s ps = ([], false) by rw [HU.out, if_pos hi])
    clear hi HU
    go_wp2
    go_ret2
    exact ⟨_, by rw [HM.out]; rfl, by rw [HM.out]; exact Sl.nil _ _ _, hb1⟩
  · have d1 : decide (i < 0) = false := decide_eq_false hi
    have HM := Lib.hid (show reverseS l s ps = if rightRec l = true then buildS (fullS l i) ps else ([], false) by rw [HU.out, if_neg hi])
    clear hi HU
    go_wp2_with fail
    refine (rightRec_calls l _ B _ (hl.below hb1) HSG.out).mono ?_
    rintro e w2 ⟨rfl, hb2⟩
    have hB2 := below_then hb1 (Nat.le_refl _) hb2
    generalize rightRec l = rr at *
    cases rr with
    | false =>
      have HM2 := Lib.hid (show reverseS l s ps = ([], false) by rw [HM.out]; rfl)
      clear HM
      go_wp2
      go_ret2
      exact ⟨_, by rw [HM2.out]; rfl, by rw [HM2.out]; exact Sl.nil _ _ _, hB2⟩
    | true =>
      have HM2 := Lib.hid (show reverseS l s ps = buildS (fullS l i) ps by rw [HM.out]; rfl)
      have h16 := HRL.out rfl
      clear HM HRL
      go_wp2_with fail
      refine (full_calls l _ B _ i (hl.below hB2) (by omega) HSG.out).mono ?_
      rintro e w3 ⟨fv, rfl, hfv, hb3⟩
      have hB3 := below_then hB2 (Nat.le_refl _) hb3
      obtain ⟨Af, capf, rfl, -, -, -⟩ := hfv.form
      go_wp2_with fail
      refine (build_calls (fullS l i) ps _ _ (fun _ => True) _ (hfv.mono (fun _ _ => trivial)) ((hq.below hB3).mono (fun _ _ => trivial)) HPS.out (HG.out.below hB3)).mono ?_
      rintro e w4 ⟨bv, rfl, hbv, hb4⟩
      have hB4 := below_then hB3 (Nat.le_refl _) hb4
      have hz := hB3.size
      cases hv : buildS (fullS l i) ps with
      | mk rl rk =>
      have HV := Lib.hid (show reverseS l s ps = (rl, rk) by rw [HM2.out, hv])
      rw [hv] at hbv
      clear hv
      simp only at hbv ⊢
      have hbv' := Sl.mono (B' := fun b => w.heap.size ≤ b) hbv (fun b hb => Nat.le_trans hz hb)
      go_wp2
      go_ret2
      exact ⟨_, by rw [HV.out]; rfl, by rw [HV.out]; exact hbv', hB4⟩
end Go.Proofs.YtejbkjndipineaaGreatDoor
