/- The trie's keys and elements; walks of trie.blank, slices.Clone. -/
import Derived.Test.YtejbkjndipineaaGreatDoorUrl
import Derived.Test.YtejbkjndipineaaGreatDoorOp2
import Derived.DeepKeys4
import Derived.Maps.RangeWalk
namespace Go.Proofs.YtejbkjndipineaaGreatDoor
open Go Go.RowKit PR
set_option linter.unusedVariables false
set_option linter.unusedSimpArgs false
set_option maxHeartbeats 400000
set_option maxRecDepth 100000
open Go.Maps

theorem laidOut : laidOutB Tryz.prog = true := by kernel_rfl
theorem keySeg : Keyed Tryz.prog 59 :=
  Keyed.of_law (deep_law_laid laidOut (m := 3) (by omega) (of_decide_eq_true (by kernel_rfl)) (by kernel_rfl) (by rw [Tryz.underlying59]))
def segV (s : Seg) : Value := .agg #[.int .i64 s.kind, .string s.text]
def segL (s : Seg) : Lit := .string (keyBytes [.int .i64 s.kind, .string s.text.data.toList])
theorem segCells : Tryz.prog.cellsOf 59 = 2 := by kernel_rfl
theorem segKT : Tryz.prog.keyType 59 = true := by kernel_rfl
theorem typesS : ∃ m, Tryz.prog.types.size = m + 1 := ⟨Tryz.prog.types.size - 1, by have : 1 ≤ Tryz.prog.types.size := of_decide_eq_true (by kernel_rfl); omega⟩
theorem cells1 : Tryz.prog.cellsOf 3 = 1 ∧ Tryz.prog.cellsOf 9 = 1 := ⟨by kernel_rfl, by kernel_rfl⟩
theorem keyOf_seg (s : Seg) (hk : (Lit.int .i64 s.kind).wf = true) (hs : s.text.size ≤ maxLen) : keyOf Tryz.prog 59 (segV s) = some (segL s) := by
  obtain ⟨m, hm⟩ := typesS
  unfold keyOf segV segL
  rw [Tryz.underlying59]
  simp only [segKT, Value.formed, Tryz.underlying59, segCells, hm]
  simp [Program.keyLits, Tryz.underlying59, Tryz.underlying3, Tryz.underlying9, segCells, cells1.1, cells1.2, hk, hs, Value.cells]
theorem keyOf_seg_inv (key : Value) (kl : Lit) (h : keyOf Tryz.prog 59 key = some kl) : ∃ s : Seg, key = segV s ∧ kl = segL s ∧ (Lit.int .i64 s.kind).wf = true ∧ s.text.size ≤ maxLen := by
  obtain ⟨m, hm⟩ := typesS
  unfold keyOf at h
  rw [Tryz.underlying59] at h
  simp only [segKT, Bool.true_and, hm] at h
  cases key <;> simp [Value.formed, Tryz.underlying59, segCells] at h
  next cs =>
    obtain ⟨h2, ls, hls, rfl⟩ := h
    obtain ⟨a, b, rfl⟩ : ∃ a b, cs = #[a, b] := by
      obtain ⟨l⟩ := cs
      match l, h2 with
      | [a, b], _ => exact ⟨a, b, rfl⟩
    simp [Program.keyLits, Tryz.underlying59, segCells, cells1.1, cells1.2, Value.cells, Tryz.underlying3, Tryz.underlying9] at hls
    cases a <;> simp at hls
    rename_i k n
    by_cases hc : k = .i64 ∧ (Lit.int .i64 n).wf = true
    · obtain ⟨rfl, hw⟩ := hc
      rw [if_pos ⟨rfl, hw⟩] at hls
      cases b <;> simp at hls
      rename_i t
      by_cases ht : t.size ≤ maxLen
      · rw [if_pos ht] at hls
        simp at hls
        exact ⟨⟨n, t⟩, rfl, by rw [← hls]; rfl, hw, ht⟩
      · rw [if_neg ht] at hls
        simp at hls
    · rw [if_neg hc] at hls
      simp at hls
theorem segL_inj {a b : Seg} (ha : (Lit.int .i64 a.kind).wf = true) (hb : (Lit.int .i64 b.kind).wf = true) (ha2 : a.text.size ≤ maxLen) (hb2 : b.text.size ≤ maxLen) (h : segL a = segL b) : a = b := by
  have := keySeg.inj (keyOf_seg a ha ha2) (h ▸ keyOf_seg b hb hb2)
  unfold segV at this
  cases a
  cases b
  simp_all
end Go.Proofs.YtejbkjndipineaaGreatDoor
