/- A library: what Go's values read as in a memory, which blocks a reading leads to, and what stays when memory changes. -/
import Derived.WalkKit
import Derived.Below
import Derived.Deep.Draws
namespace Go.Proofs.YtejbkjndipineaaGreatDoor
open Go Go.RowKit
set_option linter.unusedVariables false
set_option linter.unusedSimpArgs false
namespace PR

/-- Memory has changed at most in the blocks of S, and in new ones. -/
structure Ch (S : Nat → Prop) (w w' : World) : Prop where
  os : w'.os = w.os
  tape : w'.tape = w.tape
  output : w'.output = w.output
  size : w.heap.size ≤ w'.heap.size
  block : ∀ k, k < w.heap.size → ¬ S k → w'.heap[k]? = w.heap[k]?

theorem Ch.refl (S : Nat → Prop) (w : World) : Ch S w w := ⟨rfl, rfl, rfl, Nat.le_refl _, fun _ _ _ => rfl⟩
theorem Ch.trans {S S1 : Nat → Prop} {w w1 w2 : World} (h : Ch S w w1) (k : Ch S1 w1 w2) (hs : ∀ b, b < w.heap.size → S1 b → S b) : Ch S w w2 :=
  ⟨k.os.trans h.os, k.tape.trans h.tape, k.output.trans h.output, Nat.le_trans h.size k.size, fun i hi hS => (k.block i (Nat.lt_of_lt_of_le hi h.size) (fun c => hS (hs i hi c))).trans (h.block i hi hS)⟩
theorem Ch.mono {S S' : Nat → Prop} {w w' : World} (h : Ch S w w') (hs : ∀ b, b < w.heap.size → S b → S' b) : Ch S' w w' :=
  ⟨h.os, h.tape, h.output, h.size, fun i hi hS => h.block i hi (fun c => hS (hs i hi c))⟩
theorem Ch.of_below {w w' : World} (h : Below w.heap.size w w') (S : Nat → Prop) : Ch S w w' := ⟨h.os, h.tape, h.output, h.size, fun k hk _ => h.block k hk⟩
theorem Ch.of_grown {w w' : World} {row : Option Nat} (h : w.grownBy w' row) : Ch (fun b => some b = row) w w' := ⟨h.os, h.tape, h.output, h.size, fun k hk hn => h.block k hk hn⟩
theorem Ch.below {w w' : World} {B : Nat} {S : Nat → Prop} (h : Ch S w w') (hB : B ≤ w.heap.size) (hs : ∀ b, b < B → ¬ S b) : Below B w w' := ⟨h.os, h.tape, h.output, h.size, fun k hk => h.block k (by omega) (hs k hk)⟩
theorem Ch.alloc {S : Nat → Prop} {w w1 : World} (h : Ch S w w1) (o : Obj) : Ch S w (w1.alloc o) :=
  ⟨h.os, h.tape, h.output, by simp; have := h.size; omega, fun k hk hS => (heap_alloc_old w1 o (Nat.lt_of_lt_of_le hk h.size)).trans (h.block k hk hS)⟩
theorem Ch.drew {S : Nat → Prop} {w w1 : World} (h : Ch S w w1) : Ch S w w1.drew := ⟨h.os, h.tape, h.output, h.size, h.block⟩
theorem Ch.drewN {S : Nat → Prop} {w w1 : World} (h : Ch S w w1) (n : Nat) : Ch S w (w1.drewN n) := ⟨h.os, h.tape, h.output, h.size, h.block⟩
theorem Ch.setCell {S : Nat → Prop} {w w1 : World} (h : Ch S w w1) (p : Addr) (u : Value) (hp : p.block < w.heap.size → S p.block) : Ch S w (w1.setCell p u) :=
  ⟨h.os, h.tape, h.output, by simp [World.setCell]; exact h.size, fun k hk hS => (Below.heap_setCell w1 p u k (fun e => hS (by subst e; exact hp hk))).trans (h.block k hk hS)⟩
theorem Ch.then_below {S : Nat → Prop} {w w1 w2 : World} (h : Ch S w w1) (k : Below w1.heap.size w1 w2) : Ch S w w2 := h.trans (Ch.of_below k (fun _ => False)) (fun _ _ c => c.elim)
theorem Ch.cell {S : Nat → Prop} {w w' : World} (h : Ch S w w') {a : Addr} {v : Value} (hc : w.cell? a = some v) (hS : ¬ S a.block) : w'.cell? a = some v :=
  (World.cell?_of_block (h.block a.block (World.block_lt_of_cell? w a hc) hS)).trans hc
theorem Ch.at_ {S : Nat → Prop} {w w' : World} (h : Ch S w w') {b : Nat} {o : Obj} (hc : w.heap[b]? = some o) (hS : ¬ S b) : w'.heap[b]? = some o :=
  (h.block b (Array.getElem?_eq_some_iff.1 hc).1 hS).trans hc

theorem below_drewN {B : Nat} {a w : World} (h : Below B a w) (n : Nat) : Below B a (w.drewN n) := ⟨h.os, h.tape, h.output, h.size, h.block⟩
theorem below_alloc {B : Nat} {w W : World} (h : Below B w W) (hB : B ≤ w.heap.size) (o : Obj) : Below B w (W.alloc o) := h.alloc (Nat.le_trans hB h.size) o
theorem below_then {B : Nat} {w w1 w2 : World} (h : Below B w w1) (hB : B ≤ w.heap.size) (k : Below w1.heap.size w1 w2) : Below B w w2 :=
  h.trans (k.mono (Nat.le_trans hB h.size))
theorem below_grown {B : Nat} {w w1 w2 : World} {row : Option Nat} (h : Below B w w1) (hB : B ≤ w.heap.size) (hg : w1.grownBy w2 row) (hr : ∀ k, row = some k → B ≤ k) : Below B w w2 := h.grown hg (Nat.le_trans hB h.size) hr
theorem below_cell {w w1 : World} (h : Below w.heap.size w w1) {a : Addr} {v : Value} (hc : w.cell? a = some v) : w1.cell? a = some v := (h.cell (World.block_lt_of_cell? w a hc)).trans hc

/-- A row of cells, known whole. -/
def Blk (w : World) (b : Nat) (cs : List Value) (t : Nat) : Prop := w.heap[b]? = some (.cells cs.toArray t (0, 0))
theorem Blk.lt {w : World} {b t : Nat} {cs : List Value} (h : Blk w b cs t) : b < w.heap.size := (Array.getElem?_eq_some_iff.1 h).1
theorem Blk.cell {w : World} {b t : Nat} {cs : List Value} (h : Blk w b cs t) (i : Nat) : w.cell? ⟨b, i, none⟩ = cs[i]? := (cell_of_row w b i cs.toArray t (0, 0) h).trans (by simp)
theorem Blk.frozen {w : World} {b t : Nat} {cs : List Value} (h : Blk w b cs t) (i : Nat) : w.frozen? ⟨b, i, none⟩ = false := by unfold Blk at h; simp [World.frozen?, h]
theorem Blk.new (w : World) (cs : List Value) (t : Nat) : Blk (w.alloc (.cells cs.toArray t)) w.heap.size cs t := heap_alloc_new w _
theorem Blk.ch {S : Nat → Prop} {w w' : World} {b t : Nat} {cs : List Value} (h : Blk w b cs t) (k : Ch S w w') (hS : ¬ S b) : Blk w' b cs t := k.at_ h hS
theorem Blk.below {w w' : World} {b t B : Nat} {cs : List Value} (h : Blk w b cs t) (k : Below B w w') (hB : b < B) : Blk w' b cs t := (k.block b hB).trans h
theorem Blk.alloc {w : World} {b t : Nat} {cs : List Value} (h : Blk w b cs t) (o : Obj) : Blk (w.alloc o) b cs t := (heap_alloc_old w o h.lt).trans h
theorem Blk.drew {w : World} {b t : Nat} {cs : List Value} (h : Blk w b cs t) : Blk w.drew b cs t := h
theorem Blk.drewN {w : World} {b t : Nat} {cs : List Value} (h : Blk w b cs t) (n : Nat) : Blk (w.drewN n) b cs t := h
theorem Blk.set {w : World} {b t : Nat} {cs : List Value} (h : Blk w b cs t) (i : Nat) (v : Value) : Blk (w.setCell ⟨b, i, none⟩ v) b (cs.set i v) t := by
  have hb := h.lt
  unfold Blk at h ⊢
  simp [World.setCell, Array.getElem?_modify, h]
theorem Blk.set_ne {w : World} {b t : Nat} {cs : List Value} (h : Blk w b cs t) (p : Addr) (v : Value) (hn : b ≠ p.block) : Blk (w.setCell p v) b cs t := (Below.heap_setCell w p v b hn).trans h

/-- How values of a Lean type lie in cells: what they read as (R), whatever the blocks are that they lead to (all in B). -/
structure Enc (α : Type) where
  sz : Nat
  R : World → (Nat → Prop) → α → List Value → Prop
  len : ∀ {w B x cs}, R w B x cs → cs.length = sz
  one : ∀ {w B x cs}, R w B x cs → ∀ u ∈ cs, u.oneCell' = true
  move : ∀ {w w' B B' x cs}, (∀ b, B b → b < w.heap.size → B' b ∧ w'.heap[b]? = w.heap[b]?) → R w B x cs → R w' B' x cs

/-- A slice's value, whose elements read by P. -/
def SlP (sz : Nat) (w : World) (B : Nat → Prop) (v : Value) (n : Nat) (P : ∀ i, i < n → List Value → Prop) : Prop :=
  ∃ A cap, v = .slice A n cap ∧ n ≤ cap ∧ cap ≤ maxLen ∧ (0 < n → ∃ b off, A = some ⟨b, off, none⟩ ∧ B b ∧ b < w.heap.size ∧
    ∀ i (h : i < n), ∃ cs, P i h cs ∧ ∀ j u, cs[j]? = some u → w.cell? ⟨b, off + i * sz + j, none⟩ = some u)
theorem SlP.move {sz : Nat} {w w' : World} {B B' : Nat → Prop} {v : Value} {n : Nat} {P P' : ∀ i, i < n → List Value → Prop}
    (hb : ∀ b, B b → b < w.heap.size → B' b ∧ w'.heap[b]? = w.heap[b]?) (hP : ∀ i h cs, P i h cs → P' i h cs) (h : SlP sz w B v n P) : SlP sz w' B' v n P' := by
  obtain ⟨A, cap, rfl, h1, h2, h3⟩ := h
  refine ⟨A, cap, rfl, h1, h2, fun hn => ?_⟩
  obtain ⟨b, off, rfl, hB, hlt, he⟩ := h3 hn
  have hk := hb b hB hlt
  refine ⟨b, off, rfl, hk.1, ?_, fun i hi => ?_⟩
  · have := hk.2
    rw [Array.getElem?_eq_getElem hlt] at this
    exact (Array.getElem?_eq_some_iff.1 this).1
  · obtain ⟨cs, hp, hc⟩ := he i hi
    exact ⟨cs, hP i hi cs hp, fun j u hj => (World.cell?_of_block (a := ⟨b, off + i * sz + j, none⟩) hk.2).trans (hc j u hj)⟩

def Sl {α : Type} (d : Enc α) (w : World) (B : Nat → Prop) (v : Value) (xs : List α) : Prop :=
  SlP d.sz w B v xs.length (fun i h cs => d.R w B xs[i] cs)
theorem Sl.move {α : Type} {d : Enc α} {w w' : World} {B B' : Nat → Prop} {v : Value} {xs : List α}
    (hb : ∀ b, B b → b < w.heap.size → B' b ∧ w'.heap[b]? = w.heap[b]?) (h : Sl d w B v xs) : Sl d w' B' v xs :=
  SlP.move hb (fun _ _ _ hp => d.move hb hp) h
theorem Sl.mono {α : Type} {d : Enc α} {w : World} {B B' : Nat → Prop} {v : Value} {xs : List α} (h : Sl d w B v xs) (hb : ∀ b, B b → B' b) : Sl d w B' v xs :=
  h.move (fun b hB _ => ⟨hb b hB, rfl⟩)
theorem Sl.low {α : Type} {d : Enc α} {w : World} {B : Nat → Prop} {v : Value} {xs : List α} (h : Sl d w B v xs) : Sl d w (fun b => B b ∧ b < w.heap.size) v xs :=
  h.move (fun b hB hl => ⟨⟨hB, hl⟩, rfl⟩)
theorem Sl.below {α : Type} {d : Enc α} {w w' : World} {B : Nat → Prop} {v : Value} {xs : List α} (h : Sl d w B v xs) (k : Below w.heap.size w w') : Sl d w' B v xs :=
  h.move (fun b hB hl => ⟨hB, k.block b hl⟩)
theorem Sl.ch {α : Type} {d : Enc α} {S : Nat → Prop} {w w' : World} {B : Nat → Prop} {v : Value} {xs : List α} (h : Sl d w B v xs) (k : Ch S w w') (hS : ∀ b, B b → ¬ S b) : Sl d w' B v xs :=
  h.move (fun b hB hl => ⟨hB, k.block b hl (hS b hB)⟩)
theorem Sl.nil {α : Type} (d : Enc α) (w : World) (B : Nat → Prop) : Sl d w B (.slice none 0 0) [] := ⟨none, 0, rfl, Nat.le_refl _, Nat.zero_le _, fun h => by simp at h⟩
/-- The slice's own form, and what its element reads as. -/
theorem Sl.form {α : Type} {d : Enc α} {w : World} {B : Nat → Prop} {v : Value} {xs : List α} (h : Sl d w B v xs) :
    ∃ A cap, v = .slice A xs.length cap ∧ xs.length ≤ cap ∧ cap ≤ maxLen ∧ ∀ i (hi : i < xs.length), ∃ b off cs, A = some ⟨b, off, none⟩ ∧ B b ∧ b < w.heap.size ∧ d.R w B xs[i] cs ∧ ∀ j u, cs[j]? = some u → w.cell? ⟨b, off + i * d.sz + j, none⟩ = some u := by
  obtain ⟨A, cap, rfl, h1, h2, h3⟩ := h
  refine ⟨A, cap, rfl, h1, h2, fun i hi => ?_⟩
  obtain ⟨b, off, rfl, hB, hlt, he⟩ := h3 (by omega)
  obtain ⟨cs, hp, hc⟩ := he i hi
  exact ⟨b, off, cs, rfl, hB, hlt, hp, hc⟩
theorem Sl.at_ {α : Type} {d : Enc α} {w : World} {B : Nat → Prop} {A : Option Addr} {n cap : Nat} {xs : List α} (h : Sl d w B (.slice A n cap) xs) (i : Nat) (hi : i < xs.length) :
    ∃ b off cs, A = some ⟨b, off, none⟩ ∧ B b ∧ b < w.heap.size ∧ d.R w B xs[i] cs ∧ ∀ j u, cs[j]? = some u → w.cell? ⟨b, off + i * d.sz + j, none⟩ = some u := by
  obtain ⟨A', cap', e, _, _, hf⟩ := h.form
  cases e
  exact hf i hi
theorem Sl.len_eq {α : Type} {d : Enc α} {w : World} {B : Nat → Prop} {A : Option Addr} {n cap : Nat} {xs : List α} (h : Sl d w B (.slice A n cap) xs) : n = xs.length ∧ xs.length ≤ cap ∧ cap ≤ maxLen := by
  obtain ⟨A', cap', e, h1, h2, _⟩ := h
  cases e
  exact ⟨rfl, h1, h2⟩

/-- The kinds. -/
def eInt (k : IntKind) : Enc Int where
  sz := 1
  R := fun _ _ x cs => cs = [.int k x]
  len := fun h => by rw [h]; rfl
  one := fun h => by subst h; simp [Value.oneCell']
  move := fun _ h => h
def eBool : Enc Bool where
  sz := 1
  R := fun _ _ x cs => cs = [.bool x]
  len := fun h => by rw [h]; rfl
  one := fun h => by subst h; simp [Value.oneCell']
  move := fun _ h => h
def eStr : Enc ByteArray where
  sz := 1
  R := fun _ _ x cs => cs = [.string x] ∧ x.size ≤ maxLen
  len := fun h => by rw [h.1]; rfl
  one := fun h => by rw [h.1]; simp [Value.oneCell']
  move := fun _ h => h
def eSl {α : Type} (d : Enc α) : Enc (List α) where
  sz := 1
  R := fun w B x cs => ∃ v, cs = [v] ∧ Sl d w B v x
  len := fun h => by obtain ⟨v, rfl, _⟩ := h; rfl
  one := fun h => by obtain ⟨v, rfl, A, cap, rfl, _⟩ := h; simp [Value.oneCell']
  move := fun hb h => by obtain ⟨v, rfl, h⟩ := h; exact ⟨v, rfl, h.move hb⟩
def ePair {α β : Type} (a : Enc α) (b : Enc β) : Enc (α × β) where
  sz := a.sz + b.sz
  R := fun w B x cs => ∃ c1 c2, cs = c1 ++ c2 ∧ a.R w B x.1 c1 ∧ b.R w B x.2 c2
  len := fun h => by obtain ⟨c1, c2, rfl, h1, h2⟩ := h; rw [List.length_append, a.len h1, b.len h2]
  one := fun h => by
    obtain ⟨c1, c2, rfl, h1, h2⟩ := h
    intro u hu
    rcases List.mem_append.1 hu with hu | hu
    · exact a.one h1 u hu
    · exact b.one h2 u hu
  move := fun hb h => by obtain ⟨c1, c2, rfl, h1, h2⟩ := h; exact ⟨c1, c2, rfl, a.move hb h1, b.move hb h2⟩
def eIso {α β : Type} (a : Enc α) (f : β → α) : Enc β where
  sz := a.sz
  R := fun w B x cs => a.R w B (f x) cs
  len := a.len
  one := a.one
  move := a.move

/-- A slice that the holder of v owns: it may append to it, and write into it; its elements lead to blocks of I, and its own block is none of these. -/
def Ow {α : Type} (d : Enc α) (e : Nat) (w : World) (I : Nat → Prop) (v : Value) (xs : List α) : Prop :=
  ∃ cs, w.ownsRow 0 e d.sz v xs.length cs ∧ (∀ i (h : i < xs.length), ∃ c, d.R w I xs[i] c ∧ ∀ j u, c[j]? = some u → cs[i * d.sz + j]? = some u) ∧ (∀ g, v.ownBlock = some g → ¬ I g)
theorem Ow.nil {α : Type} (d : Enc α) (e : Nat) (w : World) (I : Nat → Prop) : Ow d e w I (.slice none 0 0) [] :=
  ⟨[], World.ownsRow_nil w 0 e d.sz, fun i h => absurd h (by simp), fun g hg => by simp [Value.ownBlock] at hg⟩
theorem Ow.lt {α : Type} {d : Enc α} {e : Nat} {w : World} {I : Nat → Prop} {v : Value} {xs : List α} (h : Ow d e w I v xs) : ∀ g, v.ownBlock = some g → g < w.heap.size := by
  obtain ⟨cs, h1, _, _⟩ := h
  exact fun g hg => (h1.lt g hg).2
theorem Ow.sl {α : Type} {d : Enc α} {e : Nat} {w : World} {I B : Nat → Prop} {v : Value} {xs : List α} (h : Ow d e w I v xs) (hI : ∀ b, I b → b < w.heap.size → B b) (hv : ∀ g, v.ownBlock = some g → B g) : Sl d w B v xs := by
  obtain ⟨cs, ho, he, hn⟩ := h
  have hcell := fun g hg => ho.cells (g := g) hg
  obtain ⟨hl, h2⟩ := ho
  rcases h2 with ⟨rfl, h0⟩ | ⟨g, cap, cur, rfl, _, hg, hnc, hcm, _⟩
  · have : xs = [] := List.eq_nil_of_length_eq_zero h0
    subst this
    exact Sl.nil d w B
  · refine ⟨some ⟨g, 0, none⟩, cap, rfl, hnc, hcm, fun _ => ⟨g, 0, rfl, hv g rfl, (Array.getElem?_eq_some_iff.1 hg).1, fun i hi => ?_⟩⟩
    obtain ⟨c, hc, hj⟩ := he i hi
    refine ⟨c, d.move (fun b hb hlt => ⟨hI b hb hlt, rfl⟩) hc, fun j u hu => ?_⟩
    have := hcell g rfl (i * d.sz + j) u (hj j u hu)
    have e1 : (⟨g, 0, none⟩ : Addr).add (i * d.sz + j) = ⟨g, 0 + i * d.sz + j, none⟩ := by unfold Addr.add; split <;> simp_all
    rwa [e1] at this
theorem Ow.form {α : Type} {d : Enc α} {e : Nat} {w : World} {I : Nat → Prop} {v : Value} {xs : List α} (h : Ow d e w I v xs) : ∃ A cap, v = .slice A xs.length cap ∧ xs.length ≤ cap ∧ cap ≤ maxLen := by
  obtain ⟨A, cap, h1, h2, h3, _⟩ := h.sl (B := fun _ => True) (fun _ _ _ => trivial) (fun _ _ => trivial)
  exact ⟨A, cap, h1, h2, h3⟩
/-- It stays where neither its own block nor what it leads to changes. -/
theorem Ow.move {α : Type} {d : Enc α} {e : Nat} {w w' : World} {I I' : Nat → Prop} {v : Value} {xs : List α} (h : Ow d e w I v xs)
    (hI : ∀ b, I b → b < w.heap.size → I' b ∧ w'.heap[b]? = w.heap[b]?) (hv : ∀ g, v.ownBlock = some g → ¬ I' g ∧ w'.heap[g]? = w.heap[g]?) : Ow d e w' I' v xs := by
  obtain ⟨cs, ho, he, hn⟩ := h
  refine ⟨cs, ⟨ho.1, ?_⟩, fun i hi => ?_, fun g hg => (hv g hg).1⟩
  · rcases ho.2 with h0 | ⟨g, cap, cur, rfl, hb, hg, r⟩
    · exact .inl h0
    · exact .inr ⟨g, cap, cur, rfl, hb, by rw [(hv g rfl).2]; exact hg, r⟩
  · obtain ⟨c, hc, hj⟩ := he i hi
    exact ⟨c, d.move hI hc, hj⟩
theorem Ow.below {α : Type} {d : Enc α} {e : Nat} {w w' : World} {I : Nat → Prop} {v : Value} {xs : List α} (h : Ow d e w I v xs) (k : Below w.heap.size w w') : Ow d e w' (fun b => I b ∧ b < w.heap.size) v xs :=
  h.move (fun b hb hl => ⟨⟨hb, hl⟩, k.block b hl⟩) (fun g hg => ⟨fun c => (by obtain ⟨_, _, _, hn⟩ := h; exact hn g hg c.1), k.block g (h.lt g hg)⟩)
theorem Ow.ch {α : Type} {d : Enc α} {e : Nat} {S : Nat → Prop} {w w' : World} {I : Nat → Prop} {v : Value} {xs : List α} (h : Ow d e w I v xs) (k : Ch S w w') (hI : ∀ b, I b → ¬ S b) (hv : ∀ g, v.ownBlock = some g → ¬ S g) : Ow d e w' (fun b => I b ∧ b < w.heap.size) v xs :=
  h.move (fun b hb hl => ⟨⟨hb, hl⟩, k.block b hl (hI b hb)⟩) (fun g hg => ⟨fun c => (by obtain ⟨_, _, _, hn⟩ := h; exact hn g hg c.1), k.block g (h.lt g hg) (hv g hg)⟩)
theorem Ow.mono {α : Type} {d : Enc α} {e : Nat} {w : World} {I I' : Nat → Prop} {v : Value} {xs : List α} (h : Ow d e w I v xs) (hI : ∀ b, I b → b < w.heap.size → I' b) (hv : ∀ g, v.ownBlock = some g → ¬ I' g) : Ow d e w I' v xs :=
  h.move (fun b hb hl => ⟨hI b hb hl, rfl⟩) (fun g hg => ⟨hv g hg, rfl⟩)

/-- Cells of elements, one behind the other. -/
theorem flat_cells {α : Type} (d : Enc α) (w : World) (I : Nat → Prop) (ys : List α) (Q : Nat → Value → Prop)
    (h : ∀ i (hi : i < ys.length), ∃ c, d.R w I ys[i] c ∧ ∀ j u, c[j]? = some u → Q (i * d.sz + j) u) :
    ∃ news : List Value, news.length = ys.length * d.sz ∧ (∀ j u, news[j]? = some u → Q j u) ∧ (∀ u ∈ news, u.oneCell' = true) ∧
      ∀ i (hi : i < ys.length), ∃ c, d.R w I ys[i] c ∧ ∀ j u, c[j]? = some u → news[i * d.sz + j]? = some u := by
  induction ys generalizing Q with
  | nil => exact ⟨[], by simp, fun j u hj => by simp at hj, by simp, fun i hi => absurd hi (by simp)⟩
  | cons y ys ih =>
    obtain ⟨c, hc, hq⟩ := h 0 (by simp)
    have hcl := d.len hc
    obtain ⟨news, n1, n2, n3, n4⟩ := ih (fun j u => Q (d.sz + j) u) (fun i hi => by
      obtain ⟨c, hc, hq⟩ := h (i + 1) (by simp; omega)
      exact ⟨c, hc, fun j u hj => by have := hq j u hj; rw [show (i + 1) * d.sz + j = d.sz + (i * d.sz + j) by rw [Nat.add_mul]; omega] at this; exact this⟩)
    refine ⟨c ++ news, by rw [List.length_append, n1, hcl, List.length_cons, Nat.add_mul]; omega, fun j u hj => ?_, fun u hu => ?_, fun i hi => ?_⟩
    · by_cases hlt : j < c.length
      · rw [List.getElem?_append_left hlt] at hj
        have := hq j u hj
        simpa using this
      · rw [List.getElem?_append_right (by omega)] at hj
        have := n2 _ u hj
        rwa [show d.sz + (j - c.length) = j by omega] at this
    · rcases List.mem_append.1 hu with hu | hu
      · exact d.one hc u hu
      · exact n3 u hu
    · cases i with
      | zero => exact ⟨c, hc, fun j u hj => by
          rw [Nat.zero_mul, Nat.zero_add, List.getElem?_append_left (List.getElem?_eq_some_iff.1 hj).1]; exact hj⟩
      | succ i =>
        obtain ⟨c', hc', hj'⟩ := n4 i (by simp at hi; omega)
        refine ⟨c', hc', fun j u hj => ?_⟩
        rw [Nat.add_mul, Nat.one_mul, List.getElem?_append_right (by omega), show i * d.sz + d.sz + j - c.length = i * d.sz + j by omega]
        exact hj' j u hj

/-- What an append leaves: v' owns the elements of v, and those of the other slice. -/
theorem Ow.appended {α : Type} {d : Enc α} {e : Nat} {w w' : World} {I : Nat → Prop} {v v' : Value} {xs ys : List α} {news : List Value} {cs0 : List Value}
    (h0 : w.ownsRow 0 e d.sz v xs.length cs0) (h1 : ∀ i (h : i < xs.length), ∃ c, d.R w I xs[i] c ∧ ∀ j u, c[j]? = some u → cs0[i * d.sz + j]? = some u)
    (hn : ∀ g, v.ownBlock = some g → ¬ I g) (n4 : ∀ i (hi : i < ys.length), ∃ c, d.R w I ys[i] c ∧ ∀ j u, c[j]? = some u → news[i * d.sz + j]? = some u)
    (ho : w'.ownsRow 0 e d.sz v' (xs.length + ys.length) (cs0 ++ news)) (hg : w.grownBy w' v.ownBlock) (hv : v'.ownBlock = v.ownBlock ∨ ∀ g, v'.ownBlock = some g → w.heap.size ≤ g) :
    Ow d e w' (fun b => I b ∧ b < w.heap.size) v' (xs ++ ys) := by
  have mv : ∀ b, I b → b < w.heap.size → (I b ∧ b < w.heap.size) ∧ w'.heap[b]? = w.heap[b]? := fun b hb hl => ⟨⟨hb, hl⟩, hg.block b hl (fun c => hn b c.symm hb)⟩
  refine ⟨cs0 ++ news, by rw [List.length_append]; exact ho, fun i hi => ?_, fun g hgv c => ?_⟩
  · by_cases hlt : i < xs.length
    · obtain ⟨c, hc, hj⟩ := h1 i hlt
      refine ⟨c, ?_, fun j u hu => ?_⟩
      · rw [List.getElem_append_left hlt]; exact d.move mv hc
      · have := hj j u hu
        rw [List.getElem?_append_left (List.getElem?_eq_some_iff.1 this).1]; exact this
    · have hi' : i < xs.length + ys.length := by simpa using hi
      obtain ⟨c, hc, hj⟩ := n4 (i - xs.length) (by omega)
      refine ⟨c, ?_, fun j u hu => ?_⟩
      · rw [List.getElem_append_right (by omega)]; exact d.move mv hc
      · have e1 : i * d.sz + j - cs0.length = (i - xs.length) * d.sz + j := by
          rw [h0.1]
          have : i * d.sz = (i - xs.length) * d.sz + xs.length * d.sz := by rw [← Nat.add_mul]; congr 1; omega
          omega
        have hle : cs0.length ≤ i * d.sz + j := by
          rw [h0.1]
          have : xs.length * d.sz ≤ i * d.sz := Nat.mul_le_mul_right _ (by omega)
          omega
        rw [List.getElem?_append_right hle, e1]
        exact hj j u hu
  · rcases hv with hv | hv
    · exact hn g (hv ▸ hgv) c.1
    · have := hv g hgv
      omega
end PR
end Go.Proofs.YtejbkjndipineaaGreatDoor
