/- Walks of slices.SortStableFunc at few numbers, of rank.Sorted. -/
import Derived.Test.YtejbkjndipineaaGreatDoorSort
import Derived.Test.YtejbkjndipineaaGreatDoorRank
import Derived.Test.YtejbkjndipineaaGreatDoorRoute
namespace Go.Proofs.YtejbkjndipineaaGreatDoor
open Go Go.RowKit PR
set_option linter.unusedVariables false
set_option linter.unusedSimpArgs false
set_option maxHeartbeats 400000
set_option maxRecDepth 100000
open Go.Shelf Go.Sort

theorem insInner_perm {α : Type} [Inhabited α] (lt : α → α → Bool) (a b : Nat) : ∀ (j : Nat) (d : Array α), a ≤ j → j < b → b ≤ d.size → PermIn a b d (insInner lt a j d)
  | 0, d, _, _, _ => by unfold insInner; exact permIn_refl d a b
  | j + 1, d, haj, hjb, hb => by
    unfold insInner
    split
    · rename_i hc
      simp only [Bool.and_eq_true, decide_eq_true_eq] at hc
      exact permIn_trans _ _ _ a b (swp_permIn d a b (j + 1) j haj hjb (by omega) (by omega) hb) (insInner_perm lt a b j _ (by omega) (by omega) (by rw [swp_size]; exact hb))
    · exact permIn_refl d a b
theorem insOuter_perm {α : Type} [Inhabited α] (lt : α → α → Bool) (a b : Nat) : ∀ (n i : Nat) (d : Array α), b - i = n → a ≤ i → b ≤ d.size → PermIn a b d (insOuter lt a b i d)
  | 0, i, d, hn, _, hb => by
    rw [insOuter, if_neg (by omega)]
    exact permIn_refl d a b
  | n + 1, i, d, hn, hai, hb => by
    rw [insOuter, if_pos (by omega)]
    have h1 := insInner_perm lt a b i d hai (by omega) hb
    exact permIn_trans _ _ _ a b h1 (insOuter_perm lt a b n (i + 1) _ (by omega) (by omega) (by rw [h1.1]; exact hb))
theorem insertion_perm {α : Type} [Inhabited α] (lt : α → α → Bool) (d : Array α) : (insertionSort lt d 0 d.size).size = d.size ∧ (insertionSort lt d 0 d.size).toList.Perm d.toList := by
  have h := insOuter_perm lt 0 d.size (d.size - (0 + 1)) (0 + 1) d rfl (by omega) (Nat.le_refl _)
  refine ⟨h.1, ?_⟩
  have h2 := h.2.2
  have e1 : (insOuter lt 0 d.size (0 + 1) d).extract 0 d.size = insOuter lt 0 d.size (0 + 1) d := by
    have := h.1
    apply Array.ext
    · simp [this]
    · intro i h1 h2
      simp
  rw [e1] at h2
  simpa [insertionSort] using h2

theorem sw_ch {α : Type} [Inhabited α] {enc : α → Value} {w W : World} {blk off : Nat} {dk : Array α} (h : SW enc w blk off dk W) : Ch (fun b => b = blk) w W := by
  obtain ⟨n, os, rfl⟩ := h
  refine ⟨rfl, rfl, rfl, ?_, fun k hk hS => ?_⟩
  · show w.heap.size ≤ ((w.heap.modify blk _) ++ os).size
    simp
  · show ((w.heap.modify blk _) ++ os)[k]? = w.heap[k]?
    rw [Array.getElem?_append_left (by simpa using hk), Array.getElem?_modify, if_neg (fun e => hS e.symm)]

theorem stable_calls {α : Type} [Inhabited α] (d : Array α) (enc : α → Value) (blk cap g : Nat) (cb : Array Value) (cf : α → α → Int) (w : World)
    (eg : ∀ args w, (callFunc g args).run Tryz.prog w = .ok (.enter g args) w) (hcmp : CmpLays1 Tryz.prog g cb enc cf blk 0 d.size w) (R : Row1 enc w blk 0 d) (hsz : d.size < 20) :
    Calls Tryz.prog 68 #[.slice (some ⟨blk, 0, none⟩) d.size cap, .func (.func g) #[] cb] w fun e w' => e = .returned (.tuple #[]) ∧ SW enc w blk 0 (insertionSort (ltOf cf) d 0 d.size) w' := by
  have hI := Any.insertionSortCmpFunc_s Tryz.insL enc cf g cb blk 0 cap 0 d.size d d w w eg hcmp R rfl (SW.start R.hH) (Nat.zero_le _) (Nat.le_refl _) (by omega)
  change Calls Tryz.prog 104 _ _ _ at hI
  have HI := Lib.hid hI
  clear hI hcmp R eg
  generalize d.size = n at *
  have hS : Calls Tryz.prog 85 #[.slice (some ⟨blk, 0, none⟩) n cap, .int .i64 n, .func (.func g) #[] cb] w fun e w' => e = .returned (.tuple #[]) ∧ SW enc w blk 0 (insertionSort (ltOf cf) d 0 n) w' := by
    have d1 : decide ((20 : Int) ≤ (n : Int)) = false := decide_eq_false (by omega)
    have d2 : decide ((20 : Int) < (n : Int)) = false := decide_eq_false (by omega)
    go_enter Tryz.func85, Tryz.ntmps85
    go_wp2
    go_loopw [7, 8] (fun a b wr => a = .int .i64 0 ∧ b = .int .i64 20 ∧ wr = w) (fun _ _ _ => 0)
    case atStart => exact ⟨rfl, rfl, rfl⟩
    case round =>
      obtain ⟨rfl, rfl, rfl⟩ := hrel
      go_wp2_with fail
      refine HI.out.mono ?_
      rintro e w1 ⟨rfl, h1⟩
      go_wp2
      go_loopw [6] (fun a wx => a = .int .i64 20 ∧ wx = w1) (fun _ _ => 0)
      case atStart => exact ⟨rfl, rfl⟩
      case round =>
        obtain ⟨rfl, rfl⟩ := hrel
        go_wp2
        go_end0
        exact ⟨rfl, by assumption⟩
  have HS := Lib.hid hS
  clear hS
  go_enter Tryz.func68, Tryz.ntmps68
  go_wp2_with fail
  refine HS.out.mono ?_
  rintro e w1 ⟨rfl, h1⟩
  go_wp2
  go_end0
  exact ⟨rfl, h1⟩
end Go.Proofs.YtejbkjndipineaaGreatDoor
