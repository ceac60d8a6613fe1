/- Walks of slices.IndexFunc and slices.ContainsFunc over segments, of slices.IndexFunc over records: whatever function is handed on. -/
import Derived.Test.YtejbkjndipineaaGreatDoorBase
namespace Go.Proofs.YtejbkjndipineaaGreatDoor
open Go Go.RowKit PR
set_option linter.unusedVariables false
set_option linter.unusedSimpArgs false
set_option maxHeartbeats 400000
set_option maxRecDepth 100000

def idxS {α : Type} (p : α → Bool) : Nat → List α → Int
  | _, [] => -1
  | i, x :: xs => if p x then i else idxS p (i + 1) xs
theorem idxS_ge {α : Type} (p : α → Bool) : ∀ (i : Nat) (xs : List α), 0 ≤ idxS p i xs ↔ xs.any p = true
  | i, [] => by simp [idxS]
  | i, x :: xs => by
    unfold idxS
    cases h : p x with
    | true => simp [h]
    | false => simp [h, idxS_ge p (i + 1) xs]

theorem indexSeg_calls (xs : List Seg) (v : Value) (B : Nat → Prop) (w : World) (f : Nat) (cap : Array Value) (p : Seg → Bool) (he : ∀ args w, (callFunc f args).run Tryz.prog w = .ok (.enter f args) w) (hx : Sl eSeg w B v xs)
    (hf : Hid (∀ x ∈ xs, ∀ wx, Below w.heap.size w wx → Calls Tryz.prog f (#[.agg #[.int .i64 x.kind, .string x.text]] ++ cap) wx fun e w' => e = .returned (.bool (p x)) ∧ Below wx.heap.size wx w')) :
    Calls Tryz.prog 60 #[v, .func (.func f) #[] cap] w fun e w' => e = .returned (.int .i64 (idxS p 0 xs)) ∧ Below w.heap.size w w' := by
  obtain ⟨A, capx, rfl, hcap, hmax, -⟩ := hx.form
  unfold maxLen at hmax
  go_enter Tryz.func60, Tryz.ntmps60
  go_wp2
  go_loopw [8] (fun i wr => ∃ k : Nat, k ≤ xs.length ∧ i = .int .i64 k ∧ Below w.heap.size w wr ∧ Hid (idxS p k (xs.drop k) = idxS p 0 xs)) (fun i _ => xs.length - (intOf i).toNat)
  case atStart => exact ⟨0, by omega, rfl, Below.refl _ _, Lib.hid rfl⟩
  case round =>
    obtain ⟨k, hk, rfl, hB, hS⟩ := hrel
    by_cases hlt : k < xs.length
    · obtain ⟨b, off, rfl, -, -, c, d, -⟩ := hx.seg_at k hlt
      replace c := below_cell hB c
      replace d := below_cell hB d
      have hS' := hS.out
      rw [List.drop_eq_getElem_cons hlt, idxS] at hS'
      have hfx := Lib.hid (hf.out xs[k] (List.getElem_mem hlt))
      generalize xs[k] = x at *
      go_wp2_with fail
      refine (hfx.out wr hB).mono ?_
      rintro e w1 ⟨rfl, hb1⟩
      cases hp : p x with
      | true =>
        rw [if_pos hp] at hS'
        have HS := Lib.hid hS'
        clear hS hS' hp
        go_wp2
        go_ret
        exact ⟨by rw [← HS.out]; rfl, below_then hB (Nat.le_refl _) hb1⟩
      | false =>
        rw [if_neg (by simp [hp])] at hS'
        have HS := Lib.hid hS'
        clear hS hS' hp
        go_wp2
        go_roundw
        case rel => exact ⟨k + 1, by omega, by go_num, below_then hB (Nat.le_refl _) hb1, HS⟩
        case measure => simp [intOf]; omega
    · have e0 : xs.drop k = [] := List.drop_eq_nil_of_le (by omega)
      have hS' := hS.out
      rw [e0] at hS'
      have HS := Lib.hid hS'
      clear hS hS' e0
      go_wp2
      go_ret
      exact ⟨by rw [← HS.out]; rfl, hB⟩

theorem containsSeg_calls (xs : List Seg) (v : Value) (B : Nat → Prop) (w : World) (f : Nat) (cap : Array Value) (p : Seg → Bool) (he : ∀ args w, (callFunc f args).run Tryz.prog w = .ok (.enter f args) w) (hx : Sl eSeg w B v xs)
    (hf : Hid (∀ x ∈ xs, ∀ wx, Below w.heap.size w wx → Calls Tryz.prog f (#[.agg #[.int .i64 x.kind, .string x.text]] ++ cap) wx fun e w' => e = .returned (.bool (p x)) ∧ Below wx.heap.size wx w')) :
    Calls Tryz.prog 42 #[v, .func (.func f) #[] cap] w fun e w' => e = .returned (.bool (xs.any p)) ∧ Below w.heap.size w w' := by
  obtain ⟨A, capx, rfl, hcap, hmax, -⟩ := hx.form
  have hi := idxS_ge p 0 xs
  go_enter Tryz.func42, Tryz.ntmps42
  go_wp2_with fail
  refine (indexSeg_calls xs _ B _ f cap p he hx hf).mono ?_
  rintro e w1 ⟨rfl, hb1⟩
  have hd : decide (0 ≤ idxS p 0 xs) = xs.any p := by rw [Bool.eq_iff_iff, decide_eq_true_iff]; exact hi
  have HD := Lib.hid hd
  clear hi hd hf he
  go_wp2
  go_ret
  exact ⟨by rw [← HD.out]; rfl, hb1⟩

theorem indexRec_calls (xs : List Record) (v : Value) (B : Nat → Prop) (w : World) (f : Nat) (cap : Array Value) (p : Record → Bool) (he : ∀ args w, (callFunc f args).run Tryz.prog w = .ok (.enter f args) w) (hx : Sl eRecord w B v xs)
    (hf : Hid (∀ x ∈ xs, ∀ sv wx, Below w.heap.size w wx → Calls Tryz.prog f (#[.agg #[.string x.name, .int .i64 x.parent, sv, .int .i64 x.comp, .bool x.keep, .int .i64 x.rule.kind, .int .i64 x.rule.flag, .string x.rule.to]] ++ cap) wx fun e w' => e = .returned (.bool (p x)) ∧ Below wx.heap.size wx w')) :
    Calls Tryz.prog 56 #[v, .func (.func f) #[] cap] w fun e w' => e = .returned (.int .i64 (idxS p 0 xs)) ∧ Below w.heap.size w w' := by
  obtain ⟨A, capx, rfl, hcap, hmax, -⟩ := hx.form
  unfold maxLen at hmax
  go_enter Tryz.func56, Tryz.ntmps56
  go_wp2
  go_loopw [8] (fun i wr => ∃ k : Nat, k ≤ xs.length ∧ i = .int .i64 k ∧ Below w.heap.size w wr ∧ Hid (idxS p k (xs.drop k) = idxS p 0 xs)) (fun i _ => xs.length - (intOf i).toNat)
  case atStart => exact ⟨0, by omega, rfl, Below.refl _ _, Lib.hid rfl⟩
  case round =>
    obtain ⟨k, hk, rfl, hB, hS⟩ := hrel
    by_cases hlt : k < xs.length
    · obtain ⟨b, off, sv, rfl, -, -, -, c0, c1, c2, c3, c4, c5, c6, c7, -⟩ := hx.record_at k hlt
      replace c0 := below_cell hB c0
      replace c1 := below_cell hB c1
      replace c2 := below_cell hB c2
      replace c3 := below_cell hB c3
      replace c4 := below_cell hB c4
      replace c5 := below_cell hB c5
      replace c6 := below_cell hB c6
      replace c7 := below_cell hB c7
      have hS' := hS.out
      rw [List.drop_eq_getElem_cons hlt, idxS] at hS'
      have hfx := Lib.hid (hf.out xs[k] (List.getElem_mem hlt))
      generalize xs[k] = x at *
      go_wp2_with fail
      refine (hfx.out sv wr hB).mono ?_
      rintro e w1 ⟨rfl, hb1⟩
      cases hp : p x with
      | true =>
        rw [if_pos hp] at hS'
        have HS := Lib.hid hS'
        clear hS hS' hp
        go_wp2
        go_ret
        exact ⟨by rw [← HS.out]; rfl, below_then hB (Nat.le_refl _) hb1⟩
      | false =>
        rw [if_neg (by simp [hp])] at hS'
        have HS := Lib.hid hS'
        clear hS hS' hp
        go_wp2
        go_roundw
        case rel => exact ⟨k + 1, by omega, by go_num, below_then hB (Nat.le_refl _) hb1, HS⟩
        case measure => simp [intOf]; omega
    · have e0 : xs.drop k = [] := List.drop_eq_nil_of_le (by omega)
      have hS' := hS.out
      rw [e0] at hS'
      have HS := Lib.hid hS'
      clear hS hS' e0
      go_wp2
      go_ret
      exact ⟨by rw [← HS.out]; rfl, hB⟩
end Go.Proofs.YtejbkjndipineaaGreatDoor
