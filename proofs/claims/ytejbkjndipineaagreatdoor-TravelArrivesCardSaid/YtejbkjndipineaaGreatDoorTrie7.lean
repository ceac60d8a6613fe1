/- Which patterns a path has, by the trie: in plain Lean. What a loop over a node's children has found, in plain Lean. -/
import Derived.Test.YtejbkjndipineaaGreatDoorTrie3
namespace Go.Proofs.YtejbkjndipineaaGreatDoor
open Go Go.RowKit PR
set_option linter.unusedVariables false
set_option linter.unusedSimpArgs false
set_option maxHeartbeats 400000
set_option maxRecDepth 100000

/-- Does the trie find a pattern's rest at a path? -/
def selM : List Seg → List ByteArray → Bool
  | [], ps => ps.isEmpty
  | s :: t, ps =>
    if s.kind = 3 ∨ (s.kind = 2 ∧ ps.length ≤ 1) then t.isEmpty
    else if s.kind = 2 then false
    else match ps with
      | [] => false
      | p :: r => (decide (s.kind = 1) || decide (s.text = p)) && selM t r
/-- What stands behind a node's prefix. -/
def restOf (p q : List Seg) : Option (List Seg) := if p <+: q then some (q.drop p.length) else none
/-- The places of the patterns below a node that a path has. -/
def foundAt (pats : List (List Seg × Nat)) (pre : List Seg) (ps : List ByteArray) : List Int :=
  (pats.filter (fun q => match restOf pre q.1 with | some t => selM t ps | none => false)).map (fun q => (q.2 : Int))

open Go Go.RowKit PR
set_option linter.unusedVariables false
set_option linter.unusedSimpArgs false
set_option maxHeartbeats 400000
set_option maxRecDepth 100000

/-- What is found at a node itself, and below those of its children that are no longer to come. -/
def partAt (pats : List (List Seg × Nat)) (pre : List Seg) (left : Lit → Bool) (ps : List ByteArray) : List Int :=
  (pats.filter (fun q => match restOf pre q.1 with | some [] => ps.isEmpty | some (s :: t) => !left (segL s) && selM (s :: t) ps | none => false)).map (fun q => (q.2 : Int))
/-- What is found below one child. -/
def subAt (pats : List (List Seg × Nat)) (pre : List Seg) (s : Seg) (ps : List ByteArray) : List Int :=
  (pats.filter (fun q => match restOf (pre ++ [s]) q.1 with | some t => selM (s :: t) ps | none => false)).map (fun q => (q.2 : Int))

theorem restOf_some {p q t : List Seg} (h : restOf p q = some t) : q = p ++ t := by
  unfold restOf at h
  split at h
  · next hp =>
    obtain ⟨r, rfl⟩ := hp
    simp at h
    rw [h]
  · cases h
theorem restOf_app (p t : List Seg) : restOf p (p ++ t) = some t := by
  unfold restOf
  rw [if_pos (List.prefix_append _ _)]
  simp
theorem restOf_none {p q : List Seg} (h : restOf p q = none) : ¬ p <+: q := by
  unfold restOf at h
  split at h
  · cases h
  · assumption

theorem partAt_end (pats : List (List Seg × Nat)) (pre : List Seg) (left : Lit → Bool) (ps : List ByteArray) (h : ∀ l, left l = false) : partAt pats pre left ps = foundAt pats pre ps := by
  unfold partAt foundAt
  congr 1
  apply List.filter_congr
  intro q _
  cases restOf pre q.1 with
  | none => rfl
  | some t =>
    cases t with
    | nil => simp only; rw [selM.eq_def]
    | cons s t => simp [h]

theorem partAt_start (pats : List (List Seg × Nat)) (pre : List Seg) (left : Lit → Bool) (ps : List ByteArray) (h : ∀ q ∈ pats, ∀ s t, q.1 = pre ++ s :: t → left (segL s) = true) :
    partAt pats pre left ps = if ps.isEmpty then endsOf pats pre else [] := by
  unfold partAt endsOf
  by_cases hp : ps.isEmpty = true
  · rw [if_pos hp]
    congr 1
    apply List.filter_congr
    intro q hq
    cases hr : restOf pre q.1 with
    | none =>
      have := restOf_none hr
      simp only
      symm
      rw [decide_eq_false_iff_not]
      intro e
      exact this (by rw [e]; exact List.prefix_refl _)
    | some t =>
      have he := restOf_some hr
      cases t with
      | nil => simp [he, hp]
      | cons s t => simp [h q hq s t he, he]
  · rw [if_neg hp]
    rw [List.map_eq_nil_iff, List.filter_eq_nil_iff]
    intro q hq
    cases hr : restOf pre q.1 with
    | none => simp
    | some t =>
      cases t with
      | nil => simpa using hp
      | cons s t => simp [h q hq s t (restOf_some hr)]

theorem filter_or_perm {α : Type} (p q : α → Bool) : ∀ (l : List α), (∀ x ∈ l, ¬ (p x = true ∧ q x = true)) → (l.filter (fun x => p x || q x)).Perm (l.filter p ++ l.filter q)
  | [], _ => List.Perm.refl _
  | a :: l, h => by
    have ih := filter_or_perm p q l (fun x hx => h x (List.mem_cons_of_mem _ hx))
    have ha := h a (List.mem_cons_self ..)
    cases hp : p a with
    | true =>
      have hq : q a = false := by
        cases hq : q a with
        | false => rfl
        | true => exact absurd ⟨hp, hq⟩ ha
      simp only [List.filter_cons, hp, hq, Bool.true_or, if_true, Bool.false_eq_true, if_false, List.cons_append]
      exact ih.cons a
    | false =>
      cases hq : q a with
      | true =>
        simp only [List.filter_cons, hp, hq, Bool.false_or, if_true, Bool.false_eq_true, if_false]
        exact (ih.cons a).trans List.perm_middle.symm
      | false =>
        simp only [List.filter_cons, hp, hq, Bool.or_false, Bool.false_eq_true, if_false]
        exact ih

theorem partAt_step (pats : List (List Seg × Nat)) (pre : List Seg) (left : Lit → Bool) (ps : List ByteArray) (s : Seg) (hs : SegOk s) (hok : ∀ q ∈ pats, ∀ x ∈ q.1, SegOk x) (hl : left (segL s) = true) :
    (partAt pats pre (fun z => left z && !z.sameKey (segL s)) ps).Perm (partAt pats pre left ps ++ subAt pats pre s ps) := by
  unfold partAt subAt
  rw [← List.map_append]
  refine List.Perm.map _ ?_
  refine (List.Perm.of_eq (List.filter_congr (fun q hq => ?_))).trans (filter_or_perm (fun q => match restOf pre q.1 with | some [] => ps.isEmpty | some (s :: t) => !left (segL s) && selM (s :: t) ps | none => false) (fun q => match restOf (pre ++ [s]) q.1 with | some t => selM (s :: t) ps | none => false) pats (fun q hq => ?_))
  · cases hr : restOf pre q.1 with
    | none =>
      have h2 : restOf (pre ++ [s]) q.1 = none := by
        cases h2 : restOf (pre ++ [s]) q.1 with
        | none => rfl
        | some t =>
          have := restOf_some h2
          exact absurd (by rw [this, List.append_assoc]; exact List.prefix_append _ _) (restOf_none hr)
      simp [h2]
    | some t =>
      have he := restOf_some hr
      cases t with
      | nil =>
        have h2 : restOf (pre ++ [s]) q.1 = none := by
          cases h2 : restOf (pre ++ [s]) q.1 with
          | none => rfl
          | some t =>
            have := restOf_some h2
            rw [he] at this
            have := congrArg List.length this
            simp at this
        simp [h2]
      | cons x t =>
        have hx : SegOk x := hok q hq x (by rw [he]; simp)
        by_cases hxs : x = s
        · subst hxs
          have h2 : restOf (pre ++ [x]) q.1 = some t := by rw [he, show pre ++ x :: t = pre ++ [x] ++ t by simp]; exact restOf_app _ _
          have h3 : (segL x).sameKey (segL x) = true := by simp [segL, Lit.sameKey]
          simp [h2, hl, h3]
        · have h2 : restOf (pre ++ [s]) q.1 = none := by
            cases h2 : restOf (pre ++ [s]) q.1 with
            | none => rfl
            | some t2 =>
              have := restOf_some h2
              rw [he, List.append_assoc] at this
              have := List.append_cancel_left this
              simp at this
              exact absurd this.1 hxs
          have h3 : (segL x).sameKey (segL s) = false := Maps.sameKey_ne (fun e => hxs (segL_inj hx.1 hs.1 hx.2 hs.2 e))
          simp [h2, h3]
  · rintro ⟨h1, h2⟩
    cases hr : restOf (pre ++ [s]) q.1 with
    | none => rw [hr] at h2; simp at h2
    | some t =>
      have he := restOf_some hr
      have h3 : restOf pre q.1 = some (s :: t) := by rw [he, List.append_assoc]; exact restOf_app _ _
      rw [h3] at h1
      simp [hl] at h1
end Go.Proofs.YtejbkjndipineaaGreatDoor
