/- Walks of route.Chain, route.Full. -/
import Derived.Test.YtejbkjndipineaaGreatDoorRoute
namespace Go.Proofs.YtejbkjndipineaaGreatDoor
open Go Go.RowKit PR
set_option linter.unusedVariables false
set_option linter.unusedSimpArgs false
set_option maxHeartbeats 400000
set_option maxRecDepth 100000

theorem chainT_len (l : List Record) (i : Int) : (chainT l i).length ≤ l.length := by
  by_cases h : i < 0 ∨ (l.length : Int) ≤ i
  · rw [chainT_stop l i h]; simp
  · have := chainUp_len l (i + 1).toNat i
    unfold chainT
    omega

theorem chain_calls (l : List Record) (v : Value) (B : Nat → Prop) (w : World) (i0 : Int) (hl : Sl eRecord w B v l) (h16 : l.length ≤ 4096) :
    Calls Tryz.prog 17 #[v, .int .i64 i0] w fun e w' => ∃ r, e = .returned r ∧ Sl (eInt .i64) w' (fun b => w.heap.size ≤ b) r (chainS l i0) ∧ Below w.heap.size w w' := by
  obtain ⟨A, cap, rfl, hcap, hmax, -⟩ := hl.form
  unfold maxLen at hmax
  have HL := Lib.hid (chainT_len l i0)
  go_enter Tryz.func17, Tryz.ntmps17
  go_wp2
  go_loopw [1, 5] (fun i v wr => ∃ (j : Int) (acc : List Int), i = .int .i64 j ∧ Ow (eInt .i64) 3 wr (fun _ => False) v acc ∧ (∀ g, v.ownBlock = some g → w.heap.size ≤ g) ∧ Below w.heap.size w wr ∧ Hid (acc ++ chainT l j = chainT l i0)) (fun i _ _ => (intOf i + 1).toNat)
  case atStart => exact ⟨i0, [], rfl, Ow.nil _ _ _ _, by simp [Value.ownBlock], Below.refl _ _, Lib.hid rfl⟩
  case round =>
    obtain ⟨j, acc, rfl, hown, hgb, hB, hD⟩ := hrel
    have hal : acc.length ≤ 4096 := by
      have h1 := HL.out
      rw [← hD.out, List.length_append] at h1
      omega
    obtain ⟨A0, cap0, rfl, hc0, hm0⟩ := hown.form
    unfold maxLen at hm0
    by_cases hin : 0 ≤ j ∧ j < l.length
    · obtain ⟨k, rfl⟩ := Int.eq_ofNat_of_zero_le hin.1
      have hk : k < l.length := by omega
      obtain ⟨b, off, sv, rfl, -, -, -, -, c1, -⟩ := hl.record_at k hk
      replace c1 := below_cell hB c1
      have hD' := hD.out
      rw [chainT_go l k hin.1 (by simpa using hk)] at hD'
      simp only [Int.toNat_natCast] at hD'
      generalize l[k].parent = p at *
      have d0 : decide ((0 : Int) ≤ (k : Int)) = true := by simp
      have d1 : decide ((k : Int) < (l.length : Int)) = true := by simp; omega
      clear hin hD
      go_wp2_with (at_builtin; refine wp_app (eInt .i64) rfl (.tmp 15) (.tmp 17) 22 3 rfl Tryz.underlying22 (.int .i64 0) 8 infoInt rfl (by decide) (fun _ => False) _ acc rfl ?own _ [(k : Int)] rfl ?src ?c3 ?c4 ?_)
      case own => exact (hown.below (below_alloc (Below.refl _ _) (Nat.le_refl _) _)).plain (fun _ c => c.1)
      case src => exact one_new (eInt .i64) wr (fun _ => False) (k : Int) _ 3 rfl (fun b c => False.elim c)
      case c3 => unfold maxLen; show acc.length + 1 ≤ _; omega
      case c4 => show (acc.length + 1) * 8 ≤ _; omega
      intro v' w' hown' hg' hv'
      have hgb' := app_own (B := w.heap.size) (w2 := wr) (o := .cells #[.int .i64 (k : Int)] 3) (by simpa using hv') hgb (by have := hB.size; omega)
      have hBn := app_below hB (Nat.le_refl _) hg' hgb
      have hbl : w.heap.size ≤ wr.heap.size := hB.size
      have c1' : w'.cell? ⟨b, off + k * 8 + 1, none⟩ = some (.int .i64 p) := by
        have hlt := World.block_lt_of_cell? w _ ((hl.record_at k hk).elim (fun _ h => by obtain ⟨o2, s2, e, -, -, -, -, c, -⟩ := h; cases e; exact c))
        exact (Ch.of_grown hg').cell (below_cell (below_alloc (Below.refl _ _) (Nat.le_refl _) _) c1) (fun e => by have := hgb _ e.symm; simp only at hlt this; omega)
      clear hown hv' hg' hB c1
      by_cases hp : (k : Int) ≤ p
      · have d2 : decide ((k : Int) ≤ p) = true := decide_eq_true hp
        rw [if_pos hp] at hD'
        have HD := Lib.hid (show acc ++ [(k : Int)] = chainT l i0 from hD')
        clear hD' hp
        go_wp2_with fail
        refine (reverse_calls _ _ _ _ hown').mono ?_
        rintro e w2 ⟨rfl, hs2, hch⟩
        have hB2 : Below w.heap.size w w2 := hBn.trans (hch.below hBn.size (fun b hb c => by have := hgb' b c; omega))
        go_wp2
        go_ret
        exact ⟨_, rfl, by unfold chainS; rw [← HD.out]; exact hs2.mono (fun b hb => hgb' b hb), hB2⟩
      · have d2 : decide ((k : Int) ≤ p) = false := decide_eq_false hp
        rw [if_neg hp] at hD'
        have HD := Lib.hid (show (acc ++ [(k : Int)]) ++ chainT l p = chainT l i0 by rw [← hD']; simp)
        clear hD'
        have hpl : p < (k : Int) := by omega
        clear hp
        go_wp2
        go_roundw
        case rel => exact ⟨p, acc ++ [(k : Int)], rfl, hown', hgb', hBn, HD⟩
        case measure => simp [intOf]; omega
    · have hD' := hD.out
      rw [chainT_stop l j (by omega), List.append_nil] at hD'
      have HD := Lib.hid hD'
      clear hD hD'
      by_cases h0 : 0 ≤ j
      · have d0 : decide ((0 : Int) ≤ j) = true := decide_eq_true h0
        have d1 : decide (j < (l.length : Int)) = false := decide_eq_false (by omega)
        clear hin h0
        go_wp2_with fail
        refine (reverse_calls _ _ _ _ hown).mono ?_
        rintro e w2 ⟨rfl, hs2, hch⟩
        have hB2 : Below w.heap.size w w2 := hB.trans (hch.below hB.size (fun b hb c => by have := hgb b c; omega))
        go_wp2
        go_ret
        exact ⟨_, rfl, by unfold chainS; rw [← HD.out]; exact hs2.mono (fun b hb => hgb b hb), hB2⟩
      · have d0 : decide ((0 : Int) ≤ j) = false := decide_eq_false h0
        clear hin h0
        go_wp2_with fail
        refine (reverse_calls _ _ _ _ hown).mono ?_
        rintro e w2 ⟨rfl, hs2, hch⟩
        have hB2 : Below w.heap.size w w2 := hB.trans (hch.below hB.size (fun b hb c => by have := hgb b c; omega))
        go_wp2
        go_ret
        exact ⟨_, rfl, by unfold chainS; rw [← HD.out]; exact hs2.mono (fun b hb => hgb b hb), hB2⟩
end Go.Proofs.YtejbkjndipineaaGreatDoor
