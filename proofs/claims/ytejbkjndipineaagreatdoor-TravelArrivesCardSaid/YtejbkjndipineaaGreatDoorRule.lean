/- The walks of rule.Ask and rule.All. -/
import Derived.Test.YtejbkjndipineaaGreatDoorTypes
namespace Go.Proofs.YtejbkjndipineaaGreatDoor
open Go Go.RowKit PR
set_option linter.unusedVariables false
set_option linter.unusedSimpArgs false
set_option maxHeartbeats 400000

/-- rule.Ask, by whether the rule's flag is set. -/
def askR (k : Int) (set : Bool) (to : ByteArray) : Int × ByteArray :=
  if k = 0 then (0, ⟨#[]⟩) else if k = 2 then (if set then (0, ⟨#[]⟩) else (1, ⟨#[]⟩)) else if k = 4 then (if set then (0, ⟨#[]⟩) else (2, to)) else if k = 3 then (2, to) else (1, ⟨#[]⟩)
def setF (f : Int) (fl : List Bool) : Bool := decide (0 ≤ f) && fl.getD f.toNat false
def askS (r : Rule) (fl : List Bool) : Int × ByteArray := askR r.kind (setF r.flag fl) r.to

theorem ask_calls (r : Rule) (fl : List Bool) (v : Value) (B : Nat → Prop) (w : World) (hf : Sl eBool w B v fl) :
    Calls Tryz.prog 23 #[.agg #[.int .i64 r.kind, .int .i64 r.flag, .string r.to], v] w fun e w' => e = .returned (.tuple #[.int .i64 (askS r fl).1, .string (askS r fl).2]) ∧ Below w.heap.size w w' := by
  obtain ⟨A, cap, rfl, hcap, hmax, hat⟩ := hf.form
  unfold maxLen at hmax
  obtain ⟨k, f, to⟩ := r
  by_cases h0 : 0 ≤ f
  · by_cases h1 : f.toNat < fl.length
    · obtain ⟨b, off, rfl, hB, hb, hc⟩ := hf.bool_at f.toNat h1
      have hs : setF f fl = fl[f.toNat] := by simp [setF, h0, List.getD, h1]
      have d1 : decide (f < (fl.length : Int)) = true := by simp; omega
      have d2 : f < (fl.length : Int) := by omega
      generalize fl[f.toNat] = q at hc hs
      have HS := Lib.hid hs
      clear hs hat hf h1
      go_enter Tryz.func23, Tryz.ntmps23
      go_wp2
      all_goals (repeat (go_quiet (fail); try go_wp2))
      all_goals go_ret2
      all_goals (refine ⟨by simp_all [askS, askR, HS.out], ?_⟩; repeat (first | exact Below.refl _ _ | apply Below.drew | apply below_drewN | refine Below.alloc ?_ (Nat.le_refl _) _))
    · have hs : setF f fl = false := by simp [setF, h0, List.getD, List.getElem?_eq_none (by omega : fl.length ≤ f.toNat)]
      have d1 : decide (f < (fl.length : Int)) = false := by simp; omega
      have HS := Lib.hid hs
      clear hs hat hf
      go_enter Tryz.func23, Tryz.ntmps23
      go_wp2
      all_goals (repeat (go_quiet (fail); try go_wp2))
      all_goals go_ret2
      all_goals (refine ⟨by simp_all [askS, askR, HS.out], ?_⟩; repeat (first | exact Below.refl _ _ | apply Below.drew | apply below_drewN | refine Below.alloc ?_ (Nat.le_refl _) _))
  · have hs : setF f fl = false := by simp [setF, h0]
    have d1 : decide (0 ≤ f) = false := by simpa using h0
    have HS := Lib.hid hs
    clear hs hat hf
    go_enter Tryz.func23, Tryz.ntmps23
    go_wp2
    all_goals (repeat (go_quiet (fail); try go_wp2))
    all_goals go_ret2
    all_goals (refine ⟨by simp_all [askS, askR, HS.out], ?_⟩; repeat (first | exact Below.refl _ _ | apply Below.drew | apply below_drewN | refine Below.alloc ?_ (Nat.le_refl _) _))

/-- rule.All, from a place on. -/
def allS (fl : List Bool) : Nat → List Rule → Int × ByteArray × Int
  | _, [] => (0, ⟨#[]⟩, -1)
  | i, r :: rs => if (askS r fl).1 = 0 then allS fl (i + 1) rs else ((askS r fl).1, (askS r fl).2, i)

theorem all_calls (rs : List Rule) (fl : List Bool) (u v : Value) (B : Nat → Prop) (w : World) (hr : Sl eRule w B u rs) (hf : Sl eBool w B v fl) :
    Calls Tryz.prog 9 #[u, v] w fun e w' => e = .returned (.tuple #[.int .i64 (allS fl 0 rs).1, .string (allS fl 0 rs).2.1, .int .i64 (allS fl 0 rs).2.2]) ∧ Below w.heap.size w w' := by
  obtain ⟨A, cap, rfl, hcap, hmax, -⟩ := hr.form
  unfold maxLen at hmax
  go_enter Tryz.func9, Tryz.ntmps9
  go_wp2
  go_loopw [13] (fun i wr => ∃ k : Nat, k ≤ rs.length ∧ i = .int .i64 k ∧ Below w.heap.size w wr ∧ Hid (allS fl k (rs.drop k) = allS fl 0 rs)) (fun i _ => rs.length - (intOf i).toNat)
  case atStart => exact ⟨0, by omega, rfl, Below.refl _ _, Lib.hid rfl⟩
  case round =>
    obtain ⟨k, hk, rfl, hB, hS⟩ := hrel
    by_cases hlt : k < rs.length
    · obtain ⟨b, off, rfl, _, hb, c0, c1, c2, _⟩ := hr.rule_at k hlt
      have e0 : allS fl k (rs.drop k) = if (askS rs[k] fl).1 = 0 then allS fl (k + 1) (rs.drop (k + 1)) else ((askS rs[k] fl).1, (askS rs[k] fl).2, k) := by rw [List.drop_eq_getElem_cons hlt]; rfl
      rw [e0] at hS
      clear e0
      have hf2 : Hid (∀ o, Sl eBool (wr.alloc o) B v fl) := fun o => hf.below (below_alloc hB (Nat.le_refl _) o)
      generalize rs[k] = r at hS c0 c1 c2
      replace c0 := below_cell hB c0
      replace c1 := below_cell hB c1
      replace c2 := below_cell hB c2
      go_wp2_with fail
      refine (ask_calls r fl v B _ (hf2.out _)).mono ?_
      rintro e w1 ⟨rfl, hb1⟩
      by_cases hz : (askS r fl).1 = 0
      · have hz' : ((askS r fl).1 != 0) = false := by simp [hz]
        have hS' := hS.out
        rw [if_pos hz] at hS'
        have HS := Lib.hid hS'
        clear hS hS' hz
        go_wp2
        go_roundw
        case rel => exact ⟨k + 1, by omega, by go_num, below_then (below_alloc hB (Nat.le_refl _) _) (Nat.le_refl _) hb1, HS⟩
        case measure => simp [intOf]; omega
      · have hz' : ((askS r fl).1 != 0) = true := by simp [hz]
        have hS' := hS.out
        rw [if_neg hz] at hS'
        have HS := Lib.hid hS'
        clear hS hS' hz
        go_wp2
        go_ret3
        exact ⟨by rw [← HS.out]; rfl, below_then (below_alloc hB (Nat.le_refl _) _) (Nat.le_refl _) hb1⟩
    · have e0 : rs.drop k = [] := List.drop_eq_nil_of_le (by omega)
      rw [e0] at hS
      go_wp2
      go_ret3
      exact ⟨by rw [← hS.out]; rfl, hB⟩
end Go.Proofs.YtejbkjndipineaaGreatDoor
