/- The trie's elements; walks of trie.blank, slices.Clone. -/
import Derived.Test.YtejbkjndipineaaGreatDoorTrie
import Derived.WalkSpells
namespace Go.Proofs.YtejbkjndipineaaGreatDoor
open Go Go.RowKit PR
set_option linter.unusedVariables false
set_option linter.unusedSimpArgs false
set_option maxHeartbeats 400000
set_option maxRecDepth 100000
open Go.Maps

def ptrV : Option Nat → Value
  | none => .pointer none
  | some b => .pointer (some ⟨b, 0, none⟩)
def ptrD : Option Nat → DataW Unit
  | none => .nil
  | some b => .lit (.int .i64 b)
/-- A pointer as an element of a map: it reads as its block's number. -/
def ptrElem : Value → Option (DataW Unit × List MemPlace)
  | .pointer none => some (.nil, [])
  | .pointer (some ⟨b, 0, none⟩) => some (.lit (.int .i64 b), [])
  | _ => none
theorem ptrElem_mk (c : Option Nat) : ptrElem (ptrV c) = some (ptrD c, []) := by cases c <;> rfl
theorem ptrElem_inv {v : Value} {y : DataW Unit × List MemPlace} (h : ptrElem v = some y) : ∃ c, v = ptrV c ∧ y = (ptrD c, []) := by
  unfold ptrElem at h
  split at h
  · cases h; exact ⟨none, rfl, rfl⟩
  · cases h; exact ⟨some _, rfl, rfl⟩
  · cases h
theorem ptrD_inj {a b : Option Nat} (h : ptrD a = ptrD b) : a = b := by
  cases a <;> cases b <;> simp [ptrD] at h <;> first | rfl | (congr; omega) | simp_all

theorem blank_calls (w : World) : Calls Tryz.prog 50 #[] w fun e w' => e = .returned (.pointer (some ⟨w.heap.size + 1, 0, none⟩)) ∧ w' = (w.alloc (.map #[] 0)).alloc (.cells #[.map (some w.heap.size), .slice none 0 0] 131) := by
  have hmm := @run_makeMap Tryz.prog
  go_enter Tryz.func50, Tryz.ntmps50
  go_wp2
  go_ret
  exact ⟨rfl, rfl⟩

theorem clone_calls (l : List Seg) (v : Value) (B : Nat → Prop) (w : World) (hl : Sl eSeg w B v l) (hlen : l.length ≤ 16777216) :
    Calls Tryz.prog 51 #[v] w fun e w' => ∃ r, e = .returned r ∧ Sl eSeg w' (fun b => w.heap.size ≤ b) r l ∧ Below w.heap.size w w' := by
  obtain ⟨A, cap, rfl, hcap, hmax, hat⟩ := hl.form
  unfold maxLen at hmax
  have heq : ∀ w, (binOp .eql 42 (.slice A l.length cap) (.slice none 0 0)).run Tryz.prog w = .ok (.bool A.isNone) w := fun w => by
    simp only [binOp]
    simp [Op.equal, Op.maxDepth, Lib.run_equalIn_slice_nil w 9999 42 59 A l.length cap 0 0 Tryz.underlying42]
  cases A with
  | none =>
    have h0 : l = [] := by
      cases l with
      | nil => rfl
      | cons a t => obtain ⟨b, off, cs, e, _⟩ := hat 0 (by simp); cases e
    subst h0
    clear hat
    replace heq : ∀ w, (binOp .eql 42 (.slice none 0 cap) (.slice none 0 0)).run Tryz.prog w = .ok (.bool true) w := heq
    change Calls Tryz.prog 51 #[.slice none 0 cap] _ _
    clear hcap hl hlen
    go_enter Tryz.func51, Tryz.ntmps51
    go_wp2
    go_ret
    exact ⟨_, rfl, Sl.nil _ _ _, Below.refl _ _⟩
  | some a =>
    clear hat
    replace heq : ∀ w, (binOp .eql 42 (.slice (some a) l.length cap) (.slice none 0 0)).run Tryz.prog w = .ok (.bool false) w := heq
    go_enter Tryz.func51, Tryz.ntmps51
    go_wp2_with (at_builtin; refine wp_app eSeg rfl (.tmp 5) (.tmp 6) 42 59 rfl Tryz.underlying42 (.agg #[.int .i64 0, .string ⟨#[]⟩]) 24 infoSeg rfl (by decide) (fun _ => False) _ [] rfl ?own _ l rfl ?src ?c3 ?c4 ?_)
    case own => exact Ow.lit eSeg 59 w (fun _ => False) [] [] 0 rfl rfl (fun i hi => absurd hi (by simp)) (fun b c => False.elim c) (Nat.zero_le _)
    case src => exact Sl.plainSeg (hl.below (below_alloc (Below.refl _ _) (Nat.le_refl _) _))
    case c3 => unfold maxLen; simp; omega
    case c4 => simp; omega
    intro v' w' hown' hg' hv'
    have hsz : (w.alloc (.cells #[] 59)).heap.size = w.heap.size + 1 := by simp
    have hgb : ∀ g, v'.ownBlock = some g → w.heap.size ≤ g := by
      intro g hg
      rcases hv' with hv | hv
      · rw [hv] at hg
        simp [Value.ownBlock] at hg
        omega
      · have := hv g hg
        omega
    have hBn : Below w.heap.size w w' := below_grown (below_alloc (Below.refl _ _) (Nat.le_refl _) (.cells #[] 59)) (Nat.le_refl _) hg' (fun g hg => by simp [Value.ownBlock] at hg; omega)
    have hown3 := hown'.plain (fun _ c => by first | exact c | exact c.1)
    clear hown' hg' hv' hsz
    try intro _
    go_wp2
    go_ret
    exact ⟨_, rfl, hown3.sl (fun _ c _ => False.elim c) hgb, hBn⟩
end Go.Proofs.YtejbkjndipineaaGreatDoor
