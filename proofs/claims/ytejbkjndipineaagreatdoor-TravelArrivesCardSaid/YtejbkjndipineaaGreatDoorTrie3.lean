/- The trie in memory: a flat list of its nodes. The trie in memory: a node more. The trie in memory: a pattern more. -/
import Derived.Test.YtejbkjndipineaaGreatDoorTrie2
namespace Go.Proofs.YtejbkjndipineaaGreatDoor
open Go Go.RowKit PR
set_option linter.unusedVariables false
set_option linter.unusedSimpArgs false
set_option maxHeartbeats 400000
set_option maxRecDepth 100000
open Go.Maps

structure TN where
  pre : List Seg
  b : Nat
  m : Nat
  e : Value
def TN.blocks (x : TN) : List Nat := x.b :: x.m :: x.e.ownBlock.toList
def childOf (ns : List TN) (p : List Seg) : Option Nat := (ns.find? (fun y => decide (y.pre = p))).map (·.b)
def SegOk (s : Seg) : Prop := (Lit.int .i64 s.kind).wf = true ∧ s.text.size ≤ maxLen
def endsOf (pats : List (List Seg × Nat)) (p : List Seg) : List Int := (pats.filter (fun q => decide (q.1 = p))).map (fun q => (q.2 : Int))

theorem ownsMap_ch {P : Program} {k : TypeId} {R : Value → Option (DataW Unit × List MemPlace)} {b n : Nat} {D : DataW Unit} {S : Nat → Prop} {w w' : World} (h : w.ownsMap P k R b n D) (hc : Ch S w w') (hS : ¬ S b) : w'.ownsMap P k R b n D := by
  obtain ⟨es, clock, hb, F, hs, hD⟩ := h
  exact ⟨es, clock, hc.at_ hb hS, F, hs, hD⟩

structure NodeAt (w : World) (pats : List (List Seg × Nat)) (ns : List TN) (x : TN) : Prop where
  blk : Blk w x.b [.map (some x.m), x.e] 131
  ends : Ow (eInt .i64) 3 w (fun _ => False) x.e (endsOf pats x.pre)
  map : ∃ D : DataW Unit, w.ownsMap Tryz.prog 59 ptrElem x.m ns.length D ∧ ∀ s, SegOk s → D.atKey (segL s) .nil = ptrD (childOf ns (x.pre ++ [s])) ∧ Maps.has D (segL s) = (childOf ns (x.pre ++ [s])).isSome
theorem NodeAt.keep {w w' : World} {pats : List (List Seg × Nat)} {ns : List TN} {x : TN} {S : Nat → Prop} (h : NodeAt w pats ns x) (hc : Ch S w w') (hS : ∀ b ∈ x.blocks, ¬ S b) : NodeAt w' pats ns x where
  blk := h.blk.ch hc (hS x.b (by simp [TN.blocks]))
  ends := h.ends.move (fun b hb => hb.elim) (fun g hg => ⟨fun c => c, by
    have hlt := h.ends.lt g hg
    exact hc.block g hlt (hS g (by simp [TN.blocks, hg]))⟩)
  map := by
    obtain ⟨D, h1, h2⟩ := h.map
    exact ⟨D, ownsMap_ch h1 hc (hS x.m (by simp [TN.blocks])), h2⟩
/-- The same node, where more nodes are known that are none of its children's. -/
theorem NodeAt.more {w : World} {pats : List (List Seg × Nat)} {ns ns' : List TN} {x : TN} (h : NodeAt w pats ns x) (hl : ns.length ≤ ns'.length) (hc : ∀ s, childOf ns' (x.pre ++ [s]) = childOf ns (x.pre ++ [s])) : NodeAt w pats ns' x where
  blk := h.blk
  ends := h.ends
  map := by
    obtain ⟨D, h1, h2⟩ := h.map
    exact ⟨D, h1.mono hl, fun s hs => by rw [hc s]; exact h2 s hs⟩
theorem NodeAt.lt {w : World} {pats : List (List Seg × Nat)} {ns : List TN} {x : TN} (h : NodeAt w pats ns x) : ∀ b ∈ x.blocks, b < w.heap.size := by
  intro b hb
  simp [TN.blocks] at hb
  rcases hb with rfl | rfl | hb
  · exact h.blk.lt
  · obtain ⟨D, h1, -⟩ := h.map
    exact h1.lt
  · exact h.ends.lt b hb

structure Trie (w : World) (base root : Nat) (pats : List (List Seg × Nat)) (ns : List TN) : Prop where
  root : ∃ x ∈ ns, x.pre = [] ∧ x.b = root
  nodup : (ns.flatMap TN.blocks).Nodup
  base : ∀ k ∈ ns.flatMap TN.blocks, base ≤ k
  pres : (ns.map TN.pre).Nodup
  node : ∀ x ∈ ns, NodeAt w pats ns x
  reach : ∀ p ∈ pats, ∀ q, q <+: p.1 → ∃ x ∈ ns, x.pre = q
  closed : ∀ x ∈ ns, ∀ q, q <+: x.pre → ∃ y ∈ ns, y.pre = q
theorem Trie.keep {w w' : World} {base root : Nat} {pats : List (List Seg × Nat)} {ns : List TN} {S : Nat → Prop} (h : Trie w base root pats ns) (hc : Ch S w w') (hS : ∀ b ∈ ns.flatMap TN.blocks, ¬ S b) : Trie w' base root pats ns :=
  ⟨h.root, h.nodup, h.base, h.pres, fun x hx => (h.node x hx).keep hc (fun b hb => hS b (List.mem_flatMap.2 ⟨x, hx, hb⟩)), h.reach, h.closed⟩
theorem Trie.lt {w : World} {base root : Nat} {pats : List (List Seg × Nat)} {ns : List TN} (h : Trie w base root pats ns) : ∀ b ∈ ns.flatMap TN.blocks, b < w.heap.size := by
  intro b hb
  obtain ⟨x, hx, hb⟩ := List.mem_flatMap.1 hb
  exact (h.node x hx).lt b hb
theorem Trie.below {w w' : World} {base root : Nat} {pats : List (List Seg × Nat)} {ns : List TN} (h : Trie w base root pats ns) (hb : Below w.heap.size w w') : Trie w' base root pats ns :=
  h.keep (Ch.of_below hb (fun _ => False)) (fun _ _ c => c)
/-- A node's child, found. -/
theorem childOf_some {ns : List TN} {p : List Seg} {c : Nat} (h : childOf ns p = some c) : ∃ x ∈ ns, x.pre = p ∧ x.b = c := by
  unfold childOf at h
  obtain ⟨x, hx, rfl⟩ := Option.map_eq_some_iff.1 h
  exact ⟨x, List.mem_of_find?_eq_some hx, by simpa using List.find?_some hx, rfl⟩
theorem childOf_none {ns : List TN} {p : List Seg} (h : childOf ns p = none) : ∀ x ∈ ns, x.pre ≠ p := by
  unfold childOf at h
  intro x hx he
  have := Option.map_eq_none_iff.1 h
  rw [List.find?_eq_none] at this
  exact this x hx (by simp [he])
theorem nodup_inj {α β : Type} {f : α → β} : ∀ (l : List α), (l.map f).Nodup → ∀ {x y : α}, x ∈ l → y ∈ l → f x = f y → x = y
  | [], _, _, _, h, _, _ => by simp at h
  | a :: l, h, x, y, hx, hy, e => by
    rw [List.map_cons, List.nodup_cons] at h
    rcases List.mem_cons.1 hx with hx1 | hx1
    · rcases List.mem_cons.1 hy with hy1 | hy1
      · rw [hx1, hy1]
      · exact absurd (by rw [← hx1, e]; exact List.mem_map_of_mem hy1) h.1
    · rcases List.mem_cons.1 hy with hy1 | hy1
      · exact absurd (by rw [← hy1, ← e]; exact List.mem_map_of_mem hx1) h.1
      · exact nodup_inj l h.2 hx1 hy1 e
theorem childOf_mem {ns : List TN} (hp : (ns.map TN.pre).Nodup) {x : TN} (hx : x ∈ ns) : childOf ns x.pre = some x.b := by
  cases h : childOf ns x.pre with
  | none => exact absurd rfl (childOf_none h x hx)
  | some c =>
    obtain ⟨y, hy, he, rfl⟩ := childOf_some h
    rw [nodup_inj ns hp hx hy he.symm]

open Go Go.RowKit PR
set_option linter.unusedVariables false
set_option linter.unusedSimpArgs false
set_option maxHeartbeats 400000
set_option maxRecDepth 100000
open Go.Maps

theorem childOf_app_other {ns : List TN} {y : TN} {p : List Seg} (h : y.pre ≠ p) : childOf (ns ++ [y]) p = childOf ns p := by
  unfold childOf
  rw [List.find?_append]
  simp [h]
theorem childOf_app_new {ns : List TN} {y : TN} (h : childOf ns y.pre = none) : childOf (ns ++ [y]) y.pre = some y.b := by
  unfold childOf at h ⊢
  rw [List.find?_append, Option.map_eq_none_iff.1 h]
  simp
theorem flat_mem {ns : List TN} {x : TN} (hx : x ∈ ns) {k : Nat} (hk : k ∈ x.blocks) : k ∈ ns.flatMap TN.blocks := List.mem_flatMap.2 ⟨x, hx, hk⟩
theorem flat_apart : ∀ {ns : List TN}, (ns.flatMap TN.blocks).Nodup → ∀ {x z : TN}, x ∈ ns → z ∈ ns → x.pre ≠ z.pre → ∀ {k : Nat}, k ∈ x.blocks → k ∉ z.blocks
  | [], _, _, _, h, _, _, _, _, _ => by simp at h
  | a :: l, h, x, z, hx, hz, hne, k, hk, hk2 => by
    rw [List.flatMap_cons, List.nodup_append] at h
    obtain ⟨h1, h2, h3⟩ := h
    rcases List.mem_cons.1 hx with hx1 | hx1
    · rcases List.mem_cons.1 hz with hz1 | hz1
      · exact hne (by rw [hx1, hz1])
      · exact h3 k (hx1 ▸ hk) k (flat_mem hz1 hk2) rfl
    · rcases List.mem_cons.1 hz with hz1 | hz1
      · exact h3 k (hz1 ▸ hk2) k (flat_mem hx1 hk) rfl
      · exact flat_apart h2 hx1 hz1 hne hk hk2
theorem blocks_nodup {ns : List TN} (h : (ns.flatMap TN.blocks).Nodup) {x : TN} (hx : x ∈ ns) : x.blocks.Nodup := by
  induction ns with
  | nil => simp at hx
  | cons a l ih =>
    rw [List.flatMap_cons, List.nodup_append] at h
    rcases List.mem_cons.1 hx with hx1 | hx1
    · rw [hx1]; exact h.1
    · exact ih h.2.1 hx1

theorem trie_add {w w1 w2 : World} {base root b' m' : Nat} {pats : List (List Seg × Nat)} {ns : List TN} {x : TN} {s : Seg} {D : DataW Unit} (h : Trie w base root pats ns) (hx : x ∈ ns) (hs : SegOk s) (hn : childOf ns (x.pre ++ [s]) = none) (hb : base ≤ w.heap.size)
    (hw1 : Below w.heap.size w w1) (hbl : Blk w1 b' [.map (some m'), .slice none 0 0] 131) (hmp : w1.ownsMap Tryz.prog 59 ptrElem m' 0 (.map [])) (hb' : w.heap.size ≤ b') (hm' : w.heap.size ≤ m') (hne : b' ≠ m')
    (hD : ∀ s, SegOk s → D.atKey (segL s) .nil = ptrD (childOf ns (x.pre ++ [s])) ∧ Maps.has D (segL s) = (childOf ns (x.pre ++ [s])).isSome) (hDm : IsMap D)
    (hown : w2.ownsMap Tryz.prog 59 ptrElem x.m (ns.length + 1) (D.put (segL s) (ptrD (some b')))) (hg : w1.grownBy w2 (some x.m)) :
    Trie w2 base root pats (ns ++ [⟨x.pre ++ [s], b', m', .slice none 0 0⟩]) := by
  have hch : Ch (fun b => b = x.m) w1 w2 := (Ch.of_grown hg).mono (fun b _ e => by simpa using e)
  have hxm : x.m < w.heap.size := (h.node x hx).lt x.m (by simp [TN.blocks])
  have hl : ns.length ≤ (ns ++ [(⟨x.pre ++ [s], b', m', .slice none 0 0⟩ : TN)]).length := by simp
  have hlen : (ns ++ [(⟨x.pre ++ [s], b', m', .slice none 0 0⟩ : TN)]).length = ns.length + 1 := by simp
  have hxn := blocks_nodup h.nodup hx
  have hx1 : x.b ≠ x.m := fun e => by simp [TN.blocks, e] at hxn
  have hx2 : ∀ g, x.e.ownBlock = some g → g ≠ x.m := fun g hg e => by simp [TN.blocks, hg, e] at hxn
  have hnew : ∀ z ∈ ns, z.pre ≠ x.pre ++ [s] := childOf_none hn
  refine ⟨?_, ?_, ?_, ?_, ?_, ?_, ?_⟩
  · obtain ⟨r, hr, h1, h2⟩ := h.root
    exact ⟨r, List.mem_append_left _ hr, h1, h2⟩
  · rw [List.flatMap_append, List.nodup_append]
    refine ⟨h.nodup, ?_, ?_⟩
    · simp [TN.blocks, Value.ownBlock, hne]
    · intro a ha c hc
      have := h.lt a ha
      simp [TN.blocks, Value.ownBlock] at hc
      omega
  · intro k hk
    rw [List.flatMap_append] at hk
    rcases List.mem_append.1 hk with hk | hk
    · exact h.base k hk
    · simp [TN.blocks, Value.ownBlock] at hk
      omega
  · rw [List.map_append, List.nodup_append]
    refine ⟨h.pres, by simp, ?_⟩
    intro a ha c hc
    obtain ⟨z, hz, rfl⟩ := List.mem_map.1 ha
    simp at hc
    rw [hc]
    exact hnew z hz
  · intro z hz0
    rcases List.mem_append.1 hz0 with hz | hz
    · clear hz0
      by_cases hzx : z.pre = x.pre
      · have hzx2 : z = x := nodup_inj ns h.pres hz hx hzx
        subst hzx2
        have h0 := h.node z hz
        refine ⟨(h0.blk.below hw1 h0.blk.lt).ch hch hx1, ?_, ⟨_, by rw [hlen]; exact hown, ?_⟩⟩
        · refine (h0.ends.below hw1).move (fun b hb => hb.1.elim) (fun g hg => ⟨fun c => c, ?_⟩)
          exact hch.block g (Nat.lt_of_lt_of_le (h0.ends.lt g hg) hw1.size) (hx2 g hg)
        · intro s' hs'
          by_cases hss : s' = s
          · subst hss
            rw [atKey_put_same hDm (by trivial), has_put_same hDm (by trivial)]
            rw [show z.pre ++ [s'] = (⟨z.pre ++ [s'], b', m', .slice none 0 0⟩ : TN).pre from rfl, childOf_app_new hn]
            exact ⟨rfl, rfl⟩
          · rw [atKey_put_other (fun e => hss (segL_inj hs'.1 hs.1 hs'.2 hs.2 e)), has_put_other (fun e => hss (segL_inj hs'.1 hs.1 hs'.2 hs.2 e)), childOf_app_other]
            · exact hD s' hs'
            intro e
            have := List.append_cancel_left e
            simp at this
            exact hss this.symm
      · have h0 := ((h.node z hz).keep (Ch.of_below hw1 (fun _ => False)) (fun _ _ c => c)).keep hch (fun b hb e => by
          subst e
          exact flat_apart h.nodup hz hx hzx hb (by simp [TN.blocks]))
        refine h0.more hl (fun s' => childOf_app_other ?_)
        intro e
        have := List.append_inj_left' e rfl
        exact hzx this.symm
    · simp at hz
      subst hz
      refine ⟨hbl.ch hch (by omega), ?_, ⟨.map [], ((ownsMap_ch hmp hch (by omega)).mono (Nat.zero_le _)), ?_⟩⟩
      · have : endsOf pats (x.pre ++ [s]) = [] := by
          unfold endsOf
          rw [List.map_eq_nil_iff, List.filter_eq_nil_iff]
          intro p hp e
          simp at e
          obtain ⟨z, hz, he⟩ := h.reach p hp p.1 (List.prefix_refl _)
          exact hnew z hz (by rw [he, e])
        show Ow _ _ _ _ _ (endsOf pats (x.pre ++ [s]))
        rw [this]
        exact Ow.nil _ _ _ _
      · intro s' hs'
        rw [childOf_app_other (by intro e; have := congrArg List.length e; simp at this)]
        cases hc : childOf ns (x.pre ++ [s] ++ [s']) with
        | none => exact ⟨rfl, rfl⟩
        | some c =>
          obtain ⟨z, hz, he, -⟩ := childOf_some hc
          obtain ⟨y, hy, hye⟩ := h.closed z hz (x.pre ++ [s]) (by rw [he]; exact List.prefix_append _ _)
          exact absurd hye (hnew y hy)
  · intro p hp q hq
    obtain ⟨z, hz, he⟩ := h.reach p hp q hq
    exact ⟨z, List.mem_append_left _ hz, he⟩
  · intro z hz q hq
    rcases List.mem_append.1 hz with hz | hz
    · obtain ⟨y, hy, he⟩ := h.closed z hz q hq
      exact ⟨y, List.mem_append_left _ hy, he⟩
    · simp at hz
      subst hz
      simp only at hq
      rcases List.prefix_concat_iff.1 hq with e | e
      · exact ⟨⟨x.pre ++ [s], b', m', .slice none 0 0⟩, List.mem_append_right _ (by simp), e.symm⟩
      · obtain ⟨y, hy, he⟩ := h.closed x hx q e
        exact ⟨y, List.mem_append_left _ hy, he⟩

open Go Go.RowKit PR
set_option linter.unusedVariables false
set_option linter.unusedSimpArgs false
set_option maxHeartbeats 400000
set_option maxRecDepth 100000
open Go.Maps

def updE (p : List Seg) (e : Value) (z : TN) : TN := if z.pre = p then { z with e := e } else z
theorem updE_pre (p : List Seg) (e : Value) (z : TN) : (updE p e z).pre = z.pre := by unfold updE; split <;> rfl
theorem updE_b (p : List Seg) (e : Value) (z : TN) : (updE p e z).b = z.b := by unfold updE; split <;> rfl
theorem updE_m (p : List Seg) (e : Value) (z : TN) : (updE p e z).m = z.m := by unfold updE; split <;> rfl
theorem updE_other {p : List Seg} {e : Value} {z : TN} (h : z.pre ≠ p) : updE p e z = z := if_neg h
theorem childOf_upd (p : List Seg) (e : Value) (ns : List TN) (q : List Seg) : childOf (ns.map (updE p e)) q = childOf ns q := by
  unfold childOf
  induction ns with
  | nil => rfl
  | cons a l ih =>
    rw [List.map_cons, List.find?_cons, List.find?_cons, updE_pre]
    cases decide (a.pre = q) with
    | true => simp [updE_b]
    | false => exact ih
theorem endsOf_snoc (pats : List (List Seg × Nat)) (p q : List Seg) (i : Nat) : endsOf (pats ++ [(p, i)]) q = if p = q then endsOf pats q ++ [(i : Int)] else endsOf pats q := by
  unfold endsOf
  rw [List.filter_append, List.map_append]
  by_cases h : p = q <;> simp [h]

theorem trie_end {w w1 w2 : World} {base root i : Nat} {pats : List (List Seg × Nat)} {ns : List TN} {x : TN} {ev : Value} (h : Trie w base root pats ns) (hx : x ∈ ns) (hb : base ≤ w.heap.size)
    (hw1 : Below w.heap.size w w1) (hown : Ow (eInt .i64) 3 w2 (fun _ => False) ev (endsOf pats x.pre ++ [(i : Int)])) (hg : w1.grownBy w2 x.e.ownBlock) (hloc : ev.ownBlock = x.e.ownBlock ∨ ∀ g, ev.ownBlock = some g → w1.heap.size ≤ g) :
    Trie (w2.setCell ⟨x.b, 1, none⟩ ev) base root (pats ++ [(x.pre, i)]) (ns.map (updE x.pre ev)) := by
  have hch : Ch (fun b => x.e.ownBlock = some b) w1 w2 := (Ch.of_grown hg).mono (fun b _ e => e.symm)
  have hc3 : Ch (fun b => b = x.b) w2 (w2.setCell ⟨x.b, 1, none⟩ ev) := (Ch.refl _ _).setCell _ _ (fun _ => rfl)
  have hxb : x.b < w.heap.size := (h.node x hx).blk.lt
  have hxn := blocks_nodup h.nodup hx
  have hx1 : x.b ≠ x.m := fun e => by simp [TN.blocks, e] at hxn
  have hx2 : ∀ g, x.e.ownBlock = some g → g ≠ x.m := fun g hg e => by simp [TN.blocks, hg, e] at hxn
  have hx3 : ∀ g, x.e.ownBlock = some g → g ≠ x.b := fun g hg e => by simp [TN.blocks, hg, e] at hxn
  have hev : ∀ g, ev.ownBlock = some g → x.e.ownBlock = some g ∨ w.heap.size ≤ g := by
    intro g hg'
    rcases hloc with e | e
    · exact .inl (e ▸ hg')
    · exact .inr (Nat.le_trans hw1.size (e g hg'))
  have hue : updE x.pre ev x = { x with e := ev } := if_pos rfl
  have hblk : ∀ z ∈ ns, ∀ k ∈ (updE x.pre ev z).blocks, k ∈ z.blocks ∨ (z.pre = x.pre ∧ w.heap.size ≤ k) := by
    intro z hz k hk
    by_cases e : z.pre = x.pre
    · have := nodup_inj ns h.pres hz hx e
      subst this
      rw [hue] at hk
      simp [TN.blocks] at hk ⊢
      rcases hk with hk | hk | hk
      · exact .inl (.inl hk)
      · exact .inl (.inr (.inl hk))
      · rcases hev k hk with h1 | h1
        · exact .inl (.inr (.inr h1))
        · exact .inr h1
    · rw [updE_other e] at hk
      exact .inl hk
  have hlz : ∀ z ∈ ns, ∀ k ∈ z.blocks, k < w.heap.size := fun z hz => (h.node z hz).lt
  refine ⟨?_, ?_, ?_, ?_, ?_, ?_, ?_⟩
  · obtain ⟨r, hr, h1, h2⟩ := h.root
    exact ⟨_, List.mem_map_of_mem hr, by rw [updE_pre]; exact h1, by rw [updE_b]; exact h2⟩
  · have hn := h.nodup
    unfold List.Nodup at hn ⊢
    rw [List.pairwise_flatMap] at hn ⊢
    refine ⟨?_, ?_⟩
    · intro z hz
      obtain ⟨y, hy, rfl⟩ := List.mem_map.1 hz
      by_cases e : y.pre = x.pre
      · have := nodup_inj ns h.pres hy hx e
        subst this
        rw [hue]
        show List.Nodup _
        have hb1 : ∀ g, ev.ownBlock = some g → g ≠ y.b ∧ g ≠ y.m := by
          intro g hg'
          rcases hev g hg' with h1 | h1
          · exact ⟨hx3 g h1, hx2 g h1⟩
          · have := hlz y hy y.m (by simp [TN.blocks])
            omega
        cases ho : ev.ownBlock with
        | none => simp [TN.blocks, ho, hx1]
        | some g =>
          have := hb1 g ho
          simp [TN.blocks, ho, hx1, Ne.symm this.1, Ne.symm this.2]
      · rw [updE_other e]
        exact hn.1 y hy
    · rw [List.pairwise_map]
      have h2 := List.pairwise_map.1 h.pres
      refine (hn.2.and h2).imp_of_mem ?_
      rintro a c ha hc ⟨h1, hp⟩ k hk j hj e
      subst e
      rcases hblk a ha k hk with h3 | ⟨h3, h4⟩
      · rcases hblk c hc k hj with h5 | ⟨h5, h6⟩
        · exact h1 k h3 k h5 rfl
        · have := hlz a ha k h3
          omega
      · rcases hblk c hc k hj with h5 | ⟨h5, h6⟩
        · have := hlz c hc k h5
          omega
        · exact hp (by rw [h3, h5])
  · intro k hk
    obtain ⟨z, hz, hk⟩ := List.mem_flatMap.1 hk
    obtain ⟨y, hy, rfl⟩ := List.mem_map.1 hz
    rcases hblk y hy k hk with h1 | ⟨-, h1⟩
    · exact h.base k (flat_mem hy h1)
    · omega
  · rw [List.map_map]
    have : TN.pre ∘ updE x.pre ev = TN.pre := by funext z; exact updE_pre _ _ z
    rw [this]
    exact h.pres
  · intro z hz
    obtain ⟨y, hy, rfl⟩ := List.mem_map.1 hz
    have h0 := h.node y hy
    have hmap : ∃ D : DataW Unit, (w2.setCell ⟨x.b, 1, none⟩ ev).ownsMap Tryz.prog 59 ptrElem y.m (ns.map (updE x.pre ev)).length D ∧ ∀ s, SegOk s → D.atKey (segL s) .nil = ptrD (childOf (ns.map (updE x.pre ev)) (y.pre ++ [s])) ∧ Maps.has D (segL s) = (childOf (ns.map (updE x.pre ev)) (y.pre ++ [s])).isSome := by
      obtain ⟨D, h1, h2⟩ := h0.map
      refine ⟨D, ?_, fun s hs => by rw [childOf_upd]; exact h2 s hs⟩
      rw [List.length_map]
      refine ownsMap_ch (ownsMap_ch (ownsMap_ch h1 (Ch.of_below hw1 (fun _ => False)) (fun c => c)) hch ?_) hc3 ?_
      · intro e
        by_cases hyx : y.pre = x.pre
        · have := nodup_inj ns h.pres hy hx hyx
          subst this
          exact hx2 _ e rfl
        · exact flat_apart h.nodup hx hy (Ne.symm hyx) (k := y.m) (by simp [TN.blocks, e]) (by simp [TN.blocks])
      · intro e
        by_cases hyx : y.pre = x.pre
        · have := nodup_inj ns h.pres hy hx hyx
          subst this
          exact hx1 e.symm
        · exact flat_apart h.nodup hy hx hyx (k := y.m) (by simp [TN.blocks]) (by simp [TN.blocks, e])
    refine ⟨?_, ?_, ?_⟩
    · by_cases hyx : y.pre = x.pre
      · have := nodup_inj ns h.pres hy hx hyx
        subst this
        rw [hue]
        have hbk := ((h0.blk.below hw1 h0.blk.lt).ch hch (fun e => hx3 _ e rfl)).set 1 ev
        exact hbk
      · rw [updE_other hyx]
        refine ((h0.blk.below hw1 h0.blk.lt).ch hch ?_).ch hc3 ?_
        · intro e
          exact flat_apart h.nodup hx hy (Ne.symm hyx) (k := y.b) (by simp [TN.blocks, e]) (by simp [TN.blocks])
        · intro e
          exact flat_apart h.nodup hy hx hyx (k := y.b) (by simp [TN.blocks]) (by simp [TN.blocks, e])
    · rw [updE_pre, endsOf_snoc]
      by_cases hyx : y.pre = x.pre
      · have := nodup_inj ns h.pres hy hx hyx
        subst this
        rw [hue, if_pos rfl]
        refine hown.move (fun b hb => hb.elim) (fun g hg => ⟨fun c => c, ?_⟩)
        refine hc3.block g (hown.lt g hg) ?_
        rcases hev g hg with h1 | h1
        · exact hx3 g h1
        · omega
      · rw [updE_other hyx, if_neg (Ne.symm hyx)]
        refine (((h0.ends.below hw1).move (fun b hb => hb.1.elim) (fun g hg => ⟨fun c => c, ?_⟩)) : Ow _ _ w2 (fun _ => False) _ _).move (fun b hb => hb.elim) (fun g hg => ⟨fun c => c, ?_⟩)
        · refine hch.block g (Nat.lt_of_lt_of_le (h0.ends.lt g hg) hw1.size) (fun e => ?_)
          exact flat_apart h.nodup hx hy (Ne.symm hyx) (k := g) (by simp [TN.blocks, e]) (by simp [TN.blocks, hg])
        · refine hc3.block g ?_ (fun e => ?_)
          · exact Nat.lt_of_lt_of_le (h0.ends.lt g hg) (Nat.le_trans hw1.size hch.size)
          · exact flat_apart h.nodup hy hx hyx (k := g) (by simp [TN.blocks, hg]) (by simp [TN.blocks, e])
    · rw [updE_pre, updE_m]
      exact hmap
  · intro p hp q hq
    rcases List.mem_append.1 hp with hp | hp
    · obtain ⟨z, hz, he⟩ := h.reach p hp q hq
      exact ⟨_, List.mem_map_of_mem hz, by rw [updE_pre]; exact he⟩
    · simp at hp
      subst hp
      obtain ⟨z, hz, he⟩ := h.closed x hx q hq
      exact ⟨_, List.mem_map_of_mem hz, by rw [updE_pre]; exact he⟩
  · intro z hz q hq
    obtain ⟨y, hy, rfl⟩ := List.mem_map.1 hz
    rw [updE_pre] at hq
    obtain ⟨y2, hy2, he⟩ := h.closed y hy q hq
    exact ⟨_, List.mem_map_of_mem hy2, by rw [updE_pre]; exact he⟩
end Go.Proofs.YtejbkjndipineaaGreatDoor
