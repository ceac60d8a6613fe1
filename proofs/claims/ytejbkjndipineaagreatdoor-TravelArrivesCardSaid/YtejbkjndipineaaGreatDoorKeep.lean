/- The walks of the small helpers that make a law's inputs: Within, pick, last. -/
import Derived.Test.YtejbkjndipineaaGreatDoorTypes
namespace Go.Proofs.YtejbkjndipineaaGreatDoor
open Go Go.RowKit PR
set_option linter.unusedVariables false
set_option linter.unusedSimpArgs false
set_option maxHeartbeats 400000
set_option maxRecDepth 100000

/-- A number brought into lo .. hi. -/
def withinS (n lo hi : Int) : Int := lo + n % (hi - lo + 1)
theorem within_bd (n lo hi : Int) (h : lo ≤ hi) : lo ≤ withinS n lo hi ∧ withinS n lo hi ≤ hi := by
  unfold withinS
  have h1 := Int.emod_nonneg n (show hi - lo + 1 ≠ 0 by omega)
  have h2 := Int.emod_lt_of_pos n (show 0 < hi - lo + 1 by omega)
  omega
theorem tmod_or (n m : Int) (hm : 0 < m) : n % m = if n.tmod m < 0 then n.tmod m + m else n.tmod m := by
  have h1 := Int.emod_nonneg n (show m ≠ 0 by omega)
  have h2 := Int.emod_lt_of_pos n hm
  rw [Int.tmod_eq_emod] 
  split <;> split <;> omega
theorem tmod_bd (n m : Int) (hm : 0 < m) : -m < n.tmod m ∧ n.tmod m < m := by
  have h1 := Int.emod_nonneg n (show m ≠ 0 by omega)
  have h2 := Int.emod_lt_of_pos n hm
  rw [Int.tmod_eq_emod]
  split <;> omega

theorem ret_int {k : IntKind} {a b : Int} (h : a = b) : Ending.returned (.int k a) = .returned (.int k b) := by rw [h]

theorem within_calls (n lo hi : Int) (w : World) (h : lo ≤ hi) (h1 : -4294967296 ≤ lo) (h2 : hi ≤ 4294967296) :
    Calls Tryz.prog 12 #[.int .i64 n, .int .i64 lo, .int .i64 hi] w fun e w' => e = .returned (.int .i64 (withinS n lo hi)) ∧ w = w' := by
  have hw : wrap64 (wrap64 (hi - lo) + 1) = hi - lo + 1 := by unfold wrap64; omega
  have hw1 : wrap64 (hi - lo) = hi - lo := by unfold wrap64; omega
  have hne : ((hi - lo + 1) == 0) = false := by simp; omega
  go_enter Tryz.func12, Tryz.ntmps12
  go_wp2
  all_goals
    go_ret
    have hm := tmod_bd n (hi - lo + 1) (by omega)
    have ho := tmod_or n (hi - lo + 1) (by omega)
    refine ⟨ret_int ?_, rfl⟩
    unfold withinS
    rw [ho]
    generalize n.tmod (hi - lo + 1) = q at *
    unfold wrap64
    split <;> omega

/-- An element of a list of numbers, by a number; 0 of none. -/
def pickS (l : List Int) (i : Int) : Int := if l.length = 0 then 0 else l.getD (i % l.length).toNat 0
theorem pick_calls (l : List Int) (i : Int) (v : Value) (B : Nat → Prop) (w : World) (hl : Sl (eInt .i64) w B v l) (h0 : 0 ≤ i) :
    Calls Tryz.prog 14 #[v, .int .i64 i] w fun e w' => e = .returned (.int .i64 (pickS l i)) ∧ w = w' := by
  obtain ⟨A, cap, rfl, hcap, hmax, -⟩ := hl.form
  unfold maxLen at hmax
  by_cases hz : l.length = 0
  · have hz' : ((l.length : Int) == 0) = true := by simp [hz]
    have hp : pickS l i = 0 := by simp [pickS, hz]
    have HP := Lib.hid hp
    clear hp hz
    go_enter Tryz.func14, Tryz.ntmps14
    go_wp2
    go_ret
    exact ⟨by first | (rw [HP.out]; done) | (rw [HP.out]; rfl), rfl⟩
  · have hz' : ((l.length : Int) == 0) = false := by simpa using hz
    have hn : 0 ≤ i % (l.length : Int) := Int.emod_nonneg i (by omega)
    have hb : i % (l.length : Int) < l.length := Int.emod_lt_of_pos i (by omega)
    have hk : (i % (l.length : Int)).toNat < l.length := by omega
    obtain ⟨b, off, rfl, _, _, hc⟩ := hl.int_at (i % (l.length : Int)).toNat hk
    have hp : pickS l i = l[(i % (l.length : Int)).toNat] := by simp [pickS, hz, List.getD, hk]
    generalize l[(i % (l.length : Int)).toNat] = q at hc hp
    have HP := Lib.hid hp
    clear hp hk
    go_enter Tryz.func14, Tryz.ntmps14
    go_wp2
    go_ret
    exact ⟨by first | (rw [HP.out]; done) | (rw [HP.out]; rfl), rfl⟩

/-- Does a record end with what must be last? -/
def lastS (l : List Seg) : Bool := match l.getLast? with | some s => decide (2 ≤ s.kind) | none => false
theorem last_calls (l : List Seg) (v : Value) (B : Nat → Prop) (w : World) (hl : Sl eSeg w B v l) :
    Calls Tryz.prog 13 #[v] w fun e w' => e = .returned (.bool (lastS l)) ∧ Below w.heap.size w w' := by
  obtain ⟨A, cap, rfl, hcap, hmax, -⟩ := hl.form
  unfold maxLen at hmax
  by_cases hz : l.length = 0
  · have hz' : decide (0 < (l.length : Int)) = false := by simp [hz]
    have hz2 : decide (0 < l.length) = false := by simp [hz]
    have hp : lastS l = false := by
      have : l = [] := List.eq_nil_of_length_eq_zero hz
      subst this; rfl
    have HP := Lib.hid hp
    clear hp hz
    go_enter Tryz.func13, Tryz.ntmps13
    go_wp2
    repeat (go_quiet (fail); try go_wp2)
    go_ret
    exact ⟨by first | (rw [HP.out]; done) | (rw [HP.out]; rfl), by (repeat (first | assumption | exact Below.refl _ _ | apply Below.drew | apply below_drewN | refine below_alloc ?_ (Nat.le_refl _) _ | refine below_then ?_ (Nat.le_refl _) (by assumption)))⟩
  · have hz' : decide (0 < (l.length : Int)) = true := by simp; omega
    have hz2 : decide (0 < l.length) = true := by simp; omega
    obtain ⟨b, off, rfl, _, _, hc, _⟩ := hl.seg_at (l.length - 1) (by omega)
    have p1 : 0 ≤ (l.length : Int) - 1 := by omega
    have p2 : 1 ≤ (l.length : Int) := by omega
    have hp : lastS l = decide (2 ≤ l[l.length - 1].kind) := by
      unfold lastS
      rw [List.getLast?_eq_getElem?, List.getElem?_eq_getElem (by omega)]
    generalize l[l.length - 1].kind = q at hc hp
    have HP := Lib.hid hp
    clear hp
    go_enter Tryz.func13, Tryz.ntmps13
    go_wp2
    repeat (go_quiet (fail); try go_wp2)
    go_ret
    exact ⟨by first | (rw [HP.out]; done) | (rw [HP.out]; rfl), by (repeat (first | assumption | exact Below.refl _ _ | apply Below.drew | apply below_drewN | refine below_alloc ?_ (Nat.le_refl _) _ | refine below_then ?_ (Nat.le_refl _) (by assumption)))⟩
end Go.Proofs.YtejbkjndipineaaGreatDoor
