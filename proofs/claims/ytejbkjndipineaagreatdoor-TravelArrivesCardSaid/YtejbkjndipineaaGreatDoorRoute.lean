/- Walks of slices.Reverse at an owned row, route.Chain, route.Full. -/
import Derived.Test.YtejbkjndipineaaGreatDoorBase
import Derived.Test.YtejbkjndipineaaGreatDoorShelf
import Derived.Deep.Upon
namespace Go.Proofs.YtejbkjndipineaaGreatDoor
open Go Go.RowKit PR
set_option linter.unusedVariables false
set_option linter.unusedSimpArgs false
set_option maxHeartbeats 400000
set_option maxRecDepth 100000

theorem PR.below_setCellsN {B g : Nat} (hg : B ≤ g) : ∀ (vs : List Value) (o : Nat) (w0 w : World), Below B w0 w → Below B w0 (w.setCells g o vs)
  | [], _, _, _, h => h
  | v :: r, o, w0, w, h => below_setCellsN hg r (o + 1) w0 _ (Below.setCell h (p := ⟨g, o, none⟩) hg v)

/-- The elements of a row of numbers, reversed in place. -/
theorem reverse_calls (xs : List Int) (v : Value) (e : Nat) (w : World) (hown : Ow (eInt .i64) e w (fun _ => False) v xs) :
    Calls Tryz.prog 36 #[v] w fun e w' => e = .returned (.tuple #[]) ∧ Sl (eInt .i64) w' (fun b => v.ownBlock = some b) v xs.reverse ∧ Ch (fun b => v.ownBlock = some b) w w' := by
  have hs := hown.sl (B := fun b => v.ownBlock = some b) (fun _ c _ => False.elim c) (fun g hg => hg)
  obtain ⟨cs, ho, he, hn⟩ := hown
  obtain ⟨hl, h2⟩ := ho
  rcases h2 with ⟨rfl, h0⟩ | ⟨g, cap, cur, rfl, _, hg, hnc, hcm, hsz, htk⟩
  · have : xs = [] := List.eq_nil_of_length_eq_zero h0
    subst this
    refine (Tryz.slices_Reverse_int_empty none 0 w).mono ?_
    rintro e w' ⟨rfl, rfl⟩
    exact ⟨rfl, hs, Ch.refl _ _⟩
  · have hcell : ∀ j (hj : j < xs.length), w.cell? ⟨g, 0 + j, none⟩ = some (.int .i64 xs[j]) := fun j hj => by
      obtain ⟨b', o', e', -, -, c⟩ := hs.int_at j hj
      cases e'
      exact c
    have hgl : g < w.heap.size := (Array.getElem?_eq_some_iff.1 hg).1
    unfold maxLen at hcm
    refine (Tryz.slices_Reverse_int_cells g 0 xs.length cap xs w (Nat.le_refl _) (by omega) (fun j hj => by rw [hcell j hj]; simp [List.getD, hj]) (fun j hj => by simp [World.frozen?, hg])).mono ?_
    rintro e w' ⟨rfl, q, rfl⟩
    rw [List.take_length]
    have hin := World.cell?_setCells_in g (xs.reverse.map (Value.int .i64)) 0 (w.drewN q) (fun j hj => by
      have hj' : j < xs.length := by simpa using hj
      show (w.cell? ⟨g, 0 + j, none⟩).isSome = true
      rw [hcell j hj']; rfl)
    refine ⟨rfl, ⟨some ⟨g, 0, none⟩, cap, by simp, by simpa using hnc, hcm, fun _ => ⟨g, 0, rfl, rfl, ?_, fun i hi => ⟨[.int .i64 xs.reverse[i]], rfl, fun j u hj => ?_⟩⟩⟩, ?_⟩
    · exact Nat.lt_of_lt_of_le hgl (PR.below_setCellsN (B := 0) (Nat.zero_le _) _ _ (w.drewN q) (w.drewN q) (Below.refl _ _)).size
    · cases j with
      | zero =>
        have := hin i (by simpa using hi)
        simp only [List.getElem?_cons_zero, Option.some.injEq] at hj
        subst hj
        have e1 : (⟨g, 0 + i * (eInt .i64).sz + 0, none⟩ : Addr) = ⟨g, 0 + i, none⟩ := by simp [eInt]
        rw [e1, this]
        simp
      | succ j => simp at hj
    · have hb := PR.below_setCellsN (B := g) (Nat.le_refl _) (xs.reverse.map (Value.int .i64)) 0 (w.drewN q) (w.drewN q) (Below.refl _ _)
      refine ⟨hb.os, hb.tape, hb.output, hb.size, fun k hk hS => ?_⟩
      exact World.heap_setCells_other (w.drewN q) g 0 _ hk (fun e => hS (by rw [e]; rfl))

/-- A record's parents, from itself up. -/
def chainUp (l : List Record) : Nat → Int → List Int
  | 0, _ => []
  | n + 1, i => if i < 0 then [] else match l[i.toNat]? with | none => [] | some r => i :: (if i ≤ r.parent then [] else chainUp l n r.parent)
theorem chainUp_fuel (l : List Record) : ∀ (n m : Nat) (i : Int), (i + 1).toNat ≤ n → (i + 1).toNat ≤ m → chainUp l n i = chainUp l m i
  | 0, 0, _, _, _ => rfl
  | 0, m + 1, i, h, _ => by rw [chainUp, chainUp, if_pos (by omega)]
  | n + 1, 0, i, _, h => by rw [chainUp, chainUp, if_pos (by omega)]
  | n + 1, m + 1, i, h1, h2 => by
    rw [chainUp, chainUp]
    by_cases hi : i < 0
    · rw [if_pos hi, if_pos hi]
    · rw [if_neg hi, if_neg hi]
      cases l[i.toNat]? with
      | none => rfl
      | some r =>
        simp only
        by_cases hp : i ≤ r.parent
        · rw [if_pos hp, if_pos hp]
        · rw [if_neg hp, if_neg hp, chainUp_fuel l n m r.parent (by omega) (by omega)]
def chainT (l : List Record) (i : Int) : List Int := chainUp l (i + 1).toNat i
/-- A record's chain. -/
def chainS (l : List Record) (i : Int) : List Int := (chainT l i).reverse
theorem chainT_stop (l : List Record) (i : Int) (h : i < 0 ∨ (l.length : Int) ≤ i) : chainT l i = [] := by
  unfold chainT
  cases hn : (i + 1).toNat with
  | zero => rfl
  | succ n =>
    rw [chainUp]
    by_cases hi : i < 0
    · rw [if_pos hi]
    · rw [if_neg hi, List.getElem?_eq_none (by omega)]
theorem chainT_go (l : List Record) (i : Int) (h0 : 0 ≤ i) (hi : i.toNat < l.length) : chainT l i = i :: (if i ≤ l[i.toNat].parent then [] else chainT l l[i.toNat].parent) := by
  unfold chainT
  have hn : (i + 1).toNat = i.toNat + 1 := by omega
  rw [hn, chainUp, if_neg (by omega), List.getElem?_eq_getElem hi]
  simp only
  by_cases hp : i ≤ l[i.toNat].parent
  · rw [if_pos hp, if_pos hp]
  · rw [if_neg hp, if_neg hp, chainUp_fuel l i.toNat _ _ (by omega) (Nat.le_refl _)]
theorem chainUp_mem (l : List Record) : ∀ (n : Nat) (i x : Int), x ∈ chainUp l n i → 0 ≤ x ∧ x < l.length
  | 0, _, _, h => by simp [chainUp] at h
  | n + 1, i, x, h => by
    rw [chainUp] at h
    by_cases hi : i < 0
    · rw [if_pos hi] at h; simp at h
    · rw [if_neg hi] at h
      cases hr : l[i.toNat]? with
      | none => rw [hr] at h; simp at h
      | some r =>
        rw [hr] at h
        have := (List.getElem?_eq_some_iff.1 hr).1
        rcases List.mem_cons.1 h with rfl | h
        · omega
        · by_cases hp : i ≤ r.parent
          · rw [if_pos hp] at h; simp at h
          · rw [if_neg hp] at h; exact chainUp_mem l n _ x h
theorem chainUp_len (l : List Record) : ∀ (n : Nat) (i : Int), (chainUp l n i).length ≤ n
  | 0, _ => by simp [chainUp]
  | n + 1, i => by
    rw [chainUp]
    split
    · simp
    · split
      · simp
      · split
        · simp
        · have := chainUp_len l n (by assumption : Record).parent
          simp only [List.length_cons]
          omega
theorem chainS_mem {l : List Record} {i x : Int} (h : x ∈ chainS l i) : 0 ≤ x ∧ x < l.length := chainUp_mem l _ i x (by simpa [chainS, chainT] using h)
end Go.Proofs.YtejbkjndipineaaGreatDoor
