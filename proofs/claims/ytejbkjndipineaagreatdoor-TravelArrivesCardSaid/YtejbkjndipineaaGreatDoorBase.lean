/- Small walks over lists: are two the same (numbers, texts, pairs). -/
import Derived.Test.YtejbkjndipineaaGreatDoorKeep
namespace Go.Proofs.YtejbkjndipineaaGreatDoor
open Go Go.RowKit PR
set_option linter.unusedVariables false
set_option linter.unusedSimpArgs false
set_option maxHeartbeats 400000
set_option maxRecDepth 100000

theorem beq_list (a b : ByteArray) : (a.toList == b.toList) = decide (a = b) := by
  rw [ByteArray.toList_eq, ByteArray.toList_eq, Bool.eq_iff_iff, beq_iff_eq, decide_eq_true_iff]
  constructor
  · intro h
    obtain ⟨⟨a⟩⟩ := a
    obtain ⟨⟨b⟩⟩ := b
    simp only at h
    rw [h]
  · intro h
    rw [h]
theorem empty_beq (a : ByteArray) : a.toList.isEmpty = decide (a.size = 0) := by
  rw [ByteArray.toList_eq]
  obtain ⟨⟨l⟩⟩ := a
  cases l with
  | nil => rfl
  | cons _ _ => simp [ByteArray.size]
theorem ret_bool {a b : Bool} (h : a = b) : Ending.returned (.bool a) = .returned (.bool b) := by rw [h]
theorem take_step {α : Type} {xs ys : List α} {k : Nat} (h : xs.take k = ys.take k) (hx : k < xs.length) (hy : k < ys.length) (e : xs[k] = ys[k]) : xs.take (k + 1) = ys.take (k + 1) := by
  rw [List.take_succ_eq_append_getElem hx, List.take_succ_eq_append_getElem hy, h, e]
theorem take_ne {α : Type} {xs ys : List α} {k : Nat} (hx : k < xs.length) (hy : k < ys.length) (e : xs[k] ≠ ys[k]) : xs ≠ ys := by
  intro h
  subst h
  exact e rfl

theorem sameInt_calls (xs ys : List Int) (u v : Value) (B : Nat → Prop) (w : World) (hx : Sl (eInt .i64) w B u xs) (hy : Sl (eInt .i64) w B v ys) :
    Calls Tryz.prog 21 #[u, v] w fun e w' => e = .returned (.bool (decide (xs = ys))) ∧ Below w.heap.size w w' := by
  obtain ⟨A, cap, rfl, hcap, hmax, -⟩ := hx.form
  obtain ⟨A2, cap2, rfl, hcap2, hmax2, -⟩ := hy.form
  unfold maxLen at hmax hmax2
  by_cases hl : xs.length = ys.length
  · have h1 : ((xs.length : Int) != (ys.length : Int)) = false := by simp [hl]
    have HL := Lib.hid hl
    clear hl
    go_enter Tryz.func21, Tryz.ntmps21
    go_wp2
    go_loopw [5] (fun i wr => ∃ k : Nat, i = .int .i64 k ∧ k ≤ xs.length ∧ Below w.heap.size w wr ∧ Hid (xs.take k = ys.take k)) (fun i _ => xs.length - (intOf i).toNat)
    case atStart => exact ⟨0, rfl, by omega, Below.refl _ _, Lib.hid rfl⟩
    case round =>
      obtain ⟨k, rfl, hk, hB, hS⟩ := hrel
      by_cases hlt : k < xs.length
      · have hlt2 : k < ys.length := by have := HL.out; omega
        obtain ⟨b, off, rfl, _, _, c⟩ := hx.int_at k hlt
        obtain ⟨b2, off2, rfl, _, _, c2⟩ := hy.int_at k hlt2
        replace c := below_cell hB c
        replace c2 := below_cell hB c2
        by_cases he : xs[k] = ys[k]
        · have HS := Lib.hid (take_step hS.out hlt hlt2 he)
          generalize xs[k] = x at *
          generalize ys[k] = y at *
          subst he
          clear hS
          go_wp2
          repeat (go_quiet (fail); try go_wp2)
          go_roundw
          case rel => exact ⟨k + 1, by go_num, by omega, by (repeat (first | assumption | exact Below.refl _ _ | apply Below.drew | apply below_drewN | refine below_alloc ?_ (Nat.le_refl _) _ | refine below_then ?_ (Nat.le_refl _) (by assumption))), HS⟩
          case measure => simp [intOf]; omega
        · have hn := Lib.hid (take_ne hlt hlt2 he)
          generalize xs[k] = x at *
          generalize ys[k] = y at *
          have hb : (x != y) = true := by simp [he]
          clear hS he
          go_wp2
          repeat (go_quiet (fail); try go_wp2)
          go_ret
          exact ⟨by rw [decide_eq_false hn.out]; rfl, by (repeat (first | assumption | exact Below.refl _ _ | apply Below.drew | apply below_drewN | refine below_alloc ?_ (Nat.le_refl _) _ | refine below_then ?_ (Nat.le_refl _) (by assumption)))⟩
      · have he := Lib.hid (show xs = ys by
          have h := hS.out
          rwa [List.take_of_length_le (by omega), List.take_of_length_le (by have := HL.out; omega)] at h)
        clear hS
        go_wp2
        go_ret
        exact ⟨by rw [decide_eq_true he.out]; rfl, hB⟩
  · have h1 : ((xs.length : Int) != (ys.length : Int)) = true := by simp; omega
    have hn : xs ≠ ys := fun h => hl (by rw [h])
    have HN := Lib.hid hn
    clear hn hl
    go_enter Tryz.func21, Tryz.ntmps21
    go_wp2
    go_ret
    exact ⟨by rw [decide_eq_false HN.out]; rfl, Below.refl _ _⟩
theorem equalStr_calls (xs ys : List ByteArray) (u v : Value) (B : Nat → Prop) (w : World) (hx : Sl eStr w B u xs) (hy : Sl eStr w B v ys) :
    Calls Tryz.prog 39 #[u, v] w fun e w' => e = .returned (.bool (decide (xs = ys))) ∧ Below w.heap.size w w' := by
  obtain ⟨A, cap, rfl, hcap, hmax, -⟩ := hx.form
  obtain ⟨A2, cap2, rfl, hcap2, hmax2, -⟩ := hy.form
  unfold maxLen at hmax hmax2
  by_cases hl : xs.length = ys.length
  · have h1 : ((xs.length : Int) != (ys.length : Int)) = false := by simp [hl]
    have HL := Lib.hid hl
    clear hl
    go_enter Tryz.func39, Tryz.ntmps39
    go_wp2
    go_loopw [13] (fun i wr => ∃ k : Nat, i = .int .i64 k ∧ k ≤ xs.length ∧ Below w.heap.size w wr ∧ Hid (xs.take k = ys.take k)) (fun i _ => xs.length - (intOf i).toNat)
    case atStart => exact ⟨0, rfl, by omega, Below.refl _ _, Lib.hid rfl⟩
    case round =>
      obtain ⟨k, rfl, hk, hB, hS⟩ := hrel
      by_cases hlt : k < xs.length
      · have hlt2 : k < ys.length := by have := HL.out; omega
        obtain ⟨b, off, rfl, _, _, c, -⟩ := hx.str_at k hlt
        obtain ⟨b2, off2, rfl, _, _, c2, -⟩ := hy.str_at k hlt2
        replace c := below_cell hB c
        replace c2 := below_cell hB c2
        by_cases he : xs[k] = ys[k]
        · have HS := Lib.hid (take_step hS.out hlt hlt2 he)
          generalize xs[k] = x at *
          generalize ys[k] = y at *
          subst he
          have hb : (x.toList == x.toList) = true := by simp
          clear hS
          go_wp2
          repeat (go_quiet (fail); try go_wp2)
          go_roundw
          case rel => exact ⟨k + 1, by go_num, by omega, by (repeat (first | assumption | exact Below.refl _ _ | apply Below.drew | apply below_drewN | refine below_alloc ?_ (Nat.le_refl _) _ | refine below_then ?_ (Nat.le_refl _) (by assumption))), HS⟩
          case measure => simp [intOf]; omega
        · have hn := Lib.hid (take_ne hlt hlt2 he)
          generalize xs[k] = x at *
          generalize ys[k] = y at *
          have hb : (x.toList == y.toList) = false := by rw [beq_list]; simp [he]
          clear hS he
          go_wp2
          repeat (go_quiet (fail); try go_wp2)
          go_ret
          exact ⟨by rw [decide_eq_false hn.out]; rfl, by (repeat (first | assumption | exact Below.refl _ _ | apply Below.drew | apply below_drewN | refine below_alloc ?_ (Nat.le_refl _) _ | refine below_then ?_ (Nat.le_refl _) (by assumption)))⟩
      · have he := Lib.hid (show xs = ys by
          have h := hS.out
          rwa [List.take_of_length_le (by omega), List.take_of_length_le (by have := HL.out; omega)] at h)
        clear hS
        go_wp2
        go_ret
        exact ⟨by rw [decide_eq_true he.out]; rfl, hB⟩
  · have h1 : ((xs.length : Int) != (ys.length : Int)) = true := by simp; omega
    have hn : xs ≠ ys := fun h => hl (by rw [h])
    have HN := Lib.hid hn
    clear hn hl
    go_enter Tryz.func39, Tryz.ntmps39
    go_wp2
    go_ret
    exact ⟨by rw [decide_eq_false HN.out]; rfl, Below.refl _ _⟩

theorem samePair_calls (xs ys : List Pair) (u v : Value) (B : Nat → Prop) (w : World) (hx : Sl ePairS w B u xs) (hy : Sl ePairS w B v ys) :
    Calls Tryz.prog 11 #[u, v] w fun e w' => e = .returned (.bool (decide (xs = ys))) ∧ Below w.heap.size w w' := by
  obtain ⟨A, cap, rfl, hcap, hmax, -⟩ := hx.form
  obtain ⟨A2, cap2, rfl, hcap2, hmax2, -⟩ := hy.form
  unfold maxLen at hmax hmax2
  by_cases hl : xs.length = ys.length
  · have h1 : ((xs.length : Int) != (ys.length : Int)) = false := by simp [hl]
    have HL := Lib.hid hl
    clear hl
    go_enter Tryz.func11, Tryz.ntmps11
    go_wp2
    go_loopw [5] (fun i wr => ∃ k : Nat, i = .int .i64 k ∧ k ≤ xs.length ∧ Below w.heap.size w wr ∧ Hid (xs.take k = ys.take k)) (fun i _ => xs.length - (intOf i).toNat)
    case atStart => exact ⟨0, rfl, by omega, Below.refl _ _, Lib.hid rfl⟩
    case round =>
      obtain ⟨k, rfl, hk, hB, hS⟩ := hrel
      by_cases hlt : k < xs.length
      · have hlt2 : k < ys.length := by have := HL.out; omega
        obtain ⟨b, off, rfl, _, _, c, d, -⟩ := hx.pair_at k hlt
        obtain ⟨b2, off2, rfl, _, _, c2, d2, -⟩ := hy.pair_at k hlt2
        replace c := below_cell hB c
        replace c2 := below_cell hB c2
        replace d := below_cell hB d
        replace d2 := below_cell hB d2
        by_cases he : xs[k] = ys[k]
        · have HS := Lib.hid (take_step hS.out hlt hlt2 he)
          generalize xs[k] = x at *
          generalize ys[k] = y at *
          subst he
          have hb : (x.name.toList == x.name.toList) = true := by simp
          have hb2 : (x.value.toList == x.value.toList) = true := by simp
          clear hS
          go_wp2
          repeat (go_quiet (fail); try go_wp2)
          go_roundw
          case rel => exact ⟨k + 1, by go_num, by omega, by (repeat (first | assumption | exact Below.refl _ _ | apply Below.drew | apply below_drewN | refine below_alloc ?_ (Nat.le_refl _) _ | refine below_then ?_ (Nat.le_refl _) (by assumption))), HS⟩
          case measure => simp [intOf]; omega
        · have hn := Lib.hid (take_ne hlt hlt2 he)
          generalize xs[k] = x at *
          generalize ys[k] = y at *
          by_cases hq : x.name = y.name
          · have hv : x.value ≠ y.value := fun h2 => he (by obtain ⟨xn, xv⟩ := x; obtain ⟨yn, yv⟩ := y; simp only at hq h2; rw [hq, h2])
            have hb : (x.name.toList == y.name.toList) = true := by rw [hq]; simp
            have hb2 : (x.value.toList == y.value.toList) = false := by rw [beq_list]; simp [hv]
            clear hS he hv hq
            go_wp2
            repeat (go_quiet (fail); try go_wp2)
            go_ret
            exact ⟨by rw [decide_eq_false hn.out]; rfl, by (repeat (first | assumption | exact Below.refl _ _ | apply Below.drew | apply below_drewN | refine below_alloc ?_ (Nat.le_refl _) _ | refine below_then ?_ (Nat.le_refl _) (by assumption)))⟩
          · have hb : (x.name.toList == y.name.toList) = false := by rw [beq_list]; simp [hq]
            clear hS he hq
            go_wp2
            repeat (go_quiet (fail); try go_wp2)
            go_ret
            exact ⟨by rw [decide_eq_false hn.out]; rfl, by (repeat (first | assumption | exact Below.refl _ _ | apply Below.drew | apply below_drewN | refine below_alloc ?_ (Nat.le_refl _) _ | refine below_then ?_ (Nat.le_refl _) (by assumption)))⟩
      · have he := Lib.hid (show xs = ys by
          have h := hS.out
          rwa [List.take_of_length_le (by omega), List.take_of_length_le (by have := HL.out; omega)] at h)
        clear hS
        go_wp2
        go_ret
        exact ⟨by rw [decide_eq_true he.out]; rfl, hB⟩
  · have h1 : ((xs.length : Int) != (ys.length : Int)) = true := by simp; omega
    have hn : xs ≠ ys := fun h => hl (by rw [h])
    have HN := Lib.hid hn
    clear hn hl
    go_enter Tryz.func11, Tryz.ntmps11
    go_wp2
    go_ret
    exact ⟨by rw [decide_eq_false HN.out]; rfl, Below.refl _ _⟩

theorem equalPair_calls (xs ys : List Pair) (u v : Value) (B : Nat → Prop) (w : World) (hx : Sl ePairS w B u xs) (hy : Sl ePairS w B v ys) :
    Calls Tryz.prog 40 #[u, v] w fun e w' => e = .returned (.bool (decide (xs = ys))) ∧ Below w.heap.size w w' := by
  obtain ⟨A, cap, rfl, hcap, hmax, -⟩ := hx.form
  obtain ⟨A2, cap2, rfl, hcap2, hmax2, -⟩ := hy.form
  unfold maxLen at hmax hmax2
  by_cases hl : xs.length = ys.length
  · have h1 : ((xs.length : Int) != (ys.length : Int)) = false := by simp [hl]
    have HL := Lib.hid hl
    clear hl
    go_enter Tryz.func40, Tryz.ntmps40
    go_wp2
    go_loopw [13] (fun i wr => ∃ k : Nat, i = .int .i64 k ∧ k ≤ xs.length ∧ Below w.heap.size w wr ∧ Hid (xs.take k = ys.take k)) (fun i _ => xs.length - (intOf i).toNat)
    case atStart => exact ⟨0, rfl, by omega, Below.refl _ _, Lib.hid rfl⟩
    case round =>
      obtain ⟨k, rfl, hk, hB, hS⟩ := hrel
      by_cases hlt : k < xs.length
      · have hlt2 : k < ys.length := by have := HL.out; omega
        obtain ⟨b, off, rfl, _, _, c, d, -⟩ := hx.pair_at k hlt
        obtain ⟨b2, off2, rfl, _, _, c2, d2, -⟩ := hy.pair_at k hlt2
        replace c := below_cell hB c
        replace c2 := below_cell hB c2
        replace d := below_cell hB d
        replace d2 := below_cell hB d2
        by_cases he : xs[k] = ys[k]
        · have HS := Lib.hid (take_step hS.out hlt hlt2 he)
          generalize xs[k] = x at *
          generalize ys[k] = y at *
          subst he
          have hb : (x.name.toList == x.name.toList) = true := by simp
          have hb2 : (x.value.toList == x.value.toList) = true := by simp
          clear hS
          go_wp2
          repeat (go_quiet (fail); try go_wp2)
          go_roundw
          case rel => exact ⟨k + 1, by go_num, by omega, by (repeat (first | assumption | exact Below.refl _ _ | apply Below.drew | apply below_drewN | refine below_alloc ?_ (Nat.le_refl _) _ | refine below_then ?_ (Nat.le_refl _) (by assumption))), HS⟩
          case measure => simp [intOf]; omega
        · have hn := Lib.hid (take_ne hlt hlt2 he)
          generalize xs[k] = x at *
          generalize ys[k] = y at *
          by_cases hq : x.name = y.name
          · have hv : x.value ≠ y.value := fun h2 => he (by obtain ⟨xn, xv⟩ := x; obtain ⟨yn, yv⟩ := y; simp only at hq h2; rw [hq, h2])
            have hb : (x.name.toList == y.name.toList) = true := by rw [hq]; simp
            have hb2 : (x.value.toList == y.value.toList) = false := by rw [beq_list]; simp [hv]
            clear hS he hv hq
            go_wp2
            repeat (go_quiet (fail); try go_wp2)
            go_ret
            exact ⟨by rw [decide_eq_false hn.out]; rfl, by (repeat (first | assumption | exact Below.refl _ _ | apply Below.drew | apply below_drewN | refine below_alloc ?_ (Nat.le_refl _) _ | refine below_then ?_ (Nat.le_refl _) (by assumption)))⟩
          · have hb : (x.name.toList == y.name.toList) = false := by rw [beq_list]; simp [hq]
            clear hS he hq
            go_wp2
            repeat (go_quiet (fail); try go_wp2)
            go_ret
            exact ⟨by rw [decide_eq_false hn.out]; rfl, by (repeat (first | assumption | exact Below.refl _ _ | apply Below.drew | apply below_drewN | refine below_alloc ?_ (Nat.le_refl _) _ | refine below_then ?_ (Nat.le_refl _) (by assumption)))⟩
      · have he := Lib.hid (show xs = ys by
          have h := hS.out
          rwa [List.take_of_length_le (by omega), List.take_of_length_le (by have := HL.out; omega)] at h)
        clear hS
        go_wp2
        go_ret
        exact ⟨by rw [decide_eq_true he.out]; rfl, hB⟩
  · have h1 : ((xs.length : Int) != (ys.length : Int)) = true := by simp; omega
    have hn : xs ≠ ys := fun h => hl (by rw [h])
    have HN := Lib.hid hn
    clear hn hl
    go_enter Tryz.func40, Tryz.ntmps40
    go_wp2
    go_ret
    exact ⟨by rw [decide_eq_false HN.out]; rfl, Below.refl _ _⟩

end Go.Proofs.YtejbkjndipineaaGreatDoor
