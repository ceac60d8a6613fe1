/- Laws of single operations over the library's readings: append, a new slice of known elements. -/
import Derived.Test.YtejbkjndipineaaGreatDoorLib
namespace Go.Proofs.YtejbkjndipineaaGreatDoor
open Go Go.RowKit
set_option linter.unusedVariables false
set_option linter.unusedSimpArgs false
namespace PR

/-- An append's run: whatever is appended, to a slice that is owned. -/
theorem run_app {P : Program} {α : Type} (d : Enc α) (t ty e : TypeId) (ht : P.underlying t = some (.slice e)) (z : Value) (bytes : Nat)
    (hinfo : (P.info? e).map (fun i => (i.zero, i.size, i.bytes)) = some (some z, d.sz, bytes)) (hzs : z.cells.size = d.sz) (hsz : 0 < d.sz)
    (w : World) (I : Nat → Prop) (v : Value) (xs : List α) (hown : Ow d e w I v xs) (y : Value) (ys : List α)
    (hy : SlP d.sz w (fun _ => True) y ys.length (fun i h cs => d.R w I ys[i] cs)) (h63 : xs.length + ys.length ≤ maxLen) (hb : (xs.length + ys.length) * bytes ≤ 140737488355328) :
    ∃ v' w', (Builtin.append_ #[t, t] ty #[v, y]).run P w = .ok v' w' ∧ Ow d e w' (fun b => I b ∧ b < w.heap.size) v' (xs ++ ys) ∧ w.grownBy w' v.ownBlock ∧
      (v'.ownBlock = v.ownBlock ∨ ∀ g, v'.ownBlock = some g → w.heap.size ≤ g) ∧ (v = .slice none 0 0 → ys = [] → v' = .slice none 0 0) := by
  obtain ⟨i, hi, hz, hsize, hby⟩ := info_parts hinfo
  obtain ⟨cs0, h0, h1, hn⟩ := hown
  obtain ⟨A, cap, rfl, hc1, hc2, hf⟩ := hy
  by_cases hm : ys.length = 0
  · have hys : ys = [] := List.eq_nil_of_length_eq_zero hm
    subst hys
    have hrun : (Builtin.append_ #[t, t] ty #[v, .slice A 0 cap]).run P w = .ok v w := by
      rcases h0.2 with ⟨rfl, hz0⟩ | ⟨g, c, cur, rfl, _, hg, hnc, hcm, hcs, htk⟩
      · cases A <;> simp [Builtin.append_, run_underlying ht, sizeOf, typeInfo, hi, Builtin.lenOf, Builtin.firstCells, loadCells, loadCellsFrom]
      · cases A with
        | none => simp [Builtin.append_, run_underlying ht, sizeOf, typeInfo, hi, Builtin.lenOf, Builtin.firstCells, hnc, storeCells]
        | some a => simp [Builtin.append_, run_underlying ht, sizeOf, typeInfo, hi, Builtin.lenOf, Builtin.firstCells, hnc, loadCells, loadCellsFrom, storeCells]
    refine ⟨v, w, hrun, ?_, ⟨rfl, rfl, rfl, Nat.le_refl _, fun _ _ _ => rfl⟩, .inl rfl, fun e _ => e⟩
    rw [List.append_nil]
    exact (Ow.move ⟨cs0, h0, h1, hn⟩ (fun b hb hl => ⟨⟨hb, hl⟩, rfl⟩) (fun g hg => ⟨fun c => hn g hg c.1, rfl⟩))
  · have hpos : 0 < ys.length := Nat.pos_of_ne_zero hm
    have hmm : xs.length + ys.length ≤ 9223372036854775807 := by unfold maxLen at h63; exact h63
    obtain ⟨b, off, rfl, _, hlt, he⟩ := hf hpos
    obtain ⟨news, n1, n2, n3, n4⟩ := flat_cells d w I ys (fun j u => w.cell? ((⟨b, off, none⟩ : Addr).add j) = some u) (fun k hk => by
      obtain ⟨cs, hr, hcell⟩ := he k hk
      refine ⟨cs, hr, fun j u hu => ?_⟩
      have e1 : (⟨b, off, none⟩ : Addr).add (k * d.sz + j) = ⟨b, off + k * d.sz + j, none⟩ := by unfold Addr.add; split <;> simp_all [Nat.add_assoc]
      rw [e1]; exact hcell j u hu)
    obtain ⟨v', w', hr, ho, hg, hnil⟩ := run_append_own (P := P) w 0 t ty e i z d.sz bytes ht hi hz hsize hby hzs hsz v xs.length cs0 h0 ⟨b, off, none⟩ ys.length cap news n1 n2 n3 h63 hb (Nat.zero_le _)
    have hv : v'.ownBlock = v.ownBlock ∨ ∀ g, v'.ownBlock = some g → w.heap.size ≤ g := by
      rcases h0.2 with ⟨rfl, hz0⟩ | ⟨g, c, cur, rfl, hbg, hgg, hnc, hcm, hcs, htk⟩
      · have hr2 := run_append_nil (P := P) w t ty e i z ht hi hz ⟨b, off, none⟩ ys.length cap news (by rw [hsize]; exact n1) n2 hpos (by omega) (by
          rw [hby]
          have : ys.length * bytes ≤ (xs.length + ys.length) * bytes := Nat.mul_le_mul_right _ (by omega)
          omega)
        rw [hr] at hr2
        injection hr2 with e1 e2
        right
        rw [e1]
        intro g hg
        simp [Value.ownBlock] at hg
        omega
      · by_cases hroom : xs.length + ys.length ≤ c
        · have hr2 := run_append_room (P := P) w t ty e i ht hi g xs.length c cur hgg ⟨b, off, none⟩ ys.length cap news (by rw [hsize]; exact n1) n2 n3 hroom (by
            rw [hsize, n1, hcs, ← Nat.add_mul]; exact Nat.mul_le_mul_right _ hroom)
          rw [hr] at hr2
          injection hr2 with e1 e2
          left
          rw [e1]
          rfl
        · have holds : ∀ j u, cs0[j]? = some u → w.cell? ((⟨g, 0, none⟩ : Addr).add j) = some u := h0.cells (g := g) rfl
          have hr2 := run_append_grow (P := P) w t ty e i z ht hi hz ⟨g, 0, none⟩ xs.length c cs0 (by rw [hsize]; exact h0.1) holds ⟨b, off, none⟩ ys.length cap news (by rw [hsize]; exact n1) n2 (by omega) (by omega) (growslice_fits (by omega) (by rw [hby]; exact hb))
          rw [hr] at hr2
          injection hr2 with e1 e2
          right
          rw [e1]
          intro g hg
          simp [Value.ownBlock] at hg
          omega
    exact ⟨v', w', hr, Ow.appended h0 h1 hn n4 ho hg hv, hg, hv, fun e1 e2 => absurd (by simp [e2]) hm⟩

/-- An append, as the walk takes it. -/
theorem wp_app {P : Program} {α : Type} (d : Enc α) {ops : Array Oper} {rest : List Oper} {o : Oper} {a : Act} {w : World} {Q : Exit → Act → World → Prop} (hgd : o.guard = none) (s x : Operand) (t e : TypeId)
    (ho : o.op = .call { callee := .builtin .append, args := #[s, x], argTypes := #[t, t] }) (ht : P.underlying t = some (.slice e)) (z : Value) (bytes : Nat)
    (hinfo : (P.info? e).map (fun i => (i.zero, i.size, i.bytes)) = some (some z, d.sz, bytes)) (hzs : z.cells.size = d.sz) (hsz : 0 < d.sz)
    (I : Nat → Prop) (v : Value) (xs : List α) (hs : a.eval s = v) (hown : Ow d e w I v xs) (y : Value) (ys : List α) (hx : a.eval x = y)
    (hy : SlP d.sz w (fun _ => True) y ys.length (fun i h cs => d.R w I ys[i] cs)) (h63 : xs.length + ys.length ≤ maxLen) (hb : (xs.length + ys.length) * bytes ≤ 140737488355328)
    (h : ∀ v' w', Ow d e w' (fun b => I b ∧ b < w.heap.size) v' (xs ++ ys) → w.grownBy w' v.ownBlock → (v'.ownBlock = v.ownBlock ∨ ∀ g, v'.ownBlock = some g → w.heap.size ≤ g) →
      (v = .slice none 0 0 → ys = [] → v' = .slice none 0 0) → wpList P ops Q rest (a.put o.dst v') w') : wpList P ops Q (o :: rest) a w := by
  refine wpList_plain hgd fun K hK => ?_
  obtain ⟨v', w', hr, h2, h3, h4, h5⟩ := run_app (P := P) d t o.type e ht z bytes hinfo hzs hsz w I v xs hown y ys hy h63 hb
  unfold Oper.wp execOp
  simp only [ho, resolve, invoke, builtin, Sem.run_bind, Sem.run_pure, Result.andThen_ok, List.map_toArray, List.map_cons, List.map_nil, hs, hx, hr]
  exact hK _ _ (h v' w' h2 h3 h4 h5)

/-- One element, in a block of its own: what a literal slice of one element is. -/
theorem one_new {α : Type} (d : Enc α) (w : World) (I : Nat → Prop) (x : α) (cs : List Value) (t : Nat) (hR : d.R w I x cs) (hI : ∀ b, I b → b < w.heap.size) :
    SlP d.sz (w.alloc (.cells cs.toArray t)) (fun _ => True) (.slice (some ⟨w.heap.size, 0, none⟩) 1 1) [x].length (fun i h c => d.R (w.alloc (.cells cs.toArray t)) I [x][i] c) := by
  refine ⟨_, _, rfl, Nat.le_refl _, by unfold maxLen; omega, fun _ => ⟨w.heap.size, 0, rfl, trivial, by simp, fun i hi => ?_⟩⟩
  obtain rfl : i = 0 := by simp at hi; omega
  refine ⟨cs, d.move (fun b hb hl => ⟨hb, heap_alloc_old w _ hl⟩) hR, fun j u hu => ?_⟩
  rw [Nat.zero_mul, Nat.add_zero, Nat.zero_add]
  simpa using hu
/-- A literal slice, in a block of its own: owned. -/
theorem Ow.lit {α : Type} (d : Enc α) (e : Nat) (w : World) (I : Nat → Prop) (xs : List α) (cs : List Value) (n : Nat) (hn : n = xs.length) (hl : cs.length = xs.length * d.sz)
    (he : ∀ i (h : i < xs.length), ∃ c, d.R w I xs[i] c ∧ ∀ j u, c[j]? = some u → cs[i * d.sz + j]? = some u) (hI : ∀ b, I b → b < w.heap.size) (hm : xs.length ≤ maxLen) :
    Ow d e (w.alloc (.cells cs.toArray e)) I (.slice (some ⟨w.heap.size, 0, none⟩) n n) xs := by
  subst hn
  refine ⟨cs, ⟨hl, .inr ⟨w.heap.size, xs.length, cs.toArray, rfl, Nat.zero_le _, heap_alloc_new w _, Nat.le_refl _, hm, by simpa using hl, by rw [← hl]; simp⟩⟩, fun i hi => ?_, fun g hg c => ?_⟩
  · obtain ⟨c, hc, hj⟩ := he i hi
    exact ⟨c, d.move (fun b hb hlt => ⟨hb, heap_alloc_old w _ hlt⟩) hc, hj⟩
  · simp [Value.ownBlock] at hg
    have := hI g c
    omega
theorem Ow.lit1 {α : Type} (d : Enc α) (e : Nat) (w : World) (I : Nat → Prop) (x : α) (cs : List Value) (hR : d.R w I x cs) (hI : ∀ b, I b → b < w.heap.size) :
    Ow d e (w.alloc (.cells cs.toArray e)) I (.slice (some ⟨w.heap.size, 0, none⟩) 1 1) [x] := by
  refine Ow.lit d e w I [x] cs 1 rfl (by simpa using d.len hR) (fun i hi => ?_) hI (by unfold maxLen; simp)
  obtain rfl : i = 0 := by simp at hi; omega
  exact ⟨cs, hR, fun j u hu => by rw [Nat.zero_mul, Nat.zero_add]; exact hu⟩
theorem Ow.litS (e : Nat) (w : World) (xs : List ByteArray) (hm : ∀ x ∈ xs, x.size ≤ maxLen) (hl : xs.length ≤ maxLen) (n : Nat) (hn : n = xs.length) (cs : List Value) (hc : cs = xs.map .string) :
    Ow eStr e (w.alloc (.cells cs.toArray e)) (fun _ => False) (.slice (some ⟨w.heap.size, 0, none⟩) n n) xs := by
  subst hc
  refine Ow.lit eStr e w _ xs _ n hn (by simp [eStr]) (fun i hi => ⟨[.string xs[i]], ⟨rfl, hm _ (List.getElem_mem hi)⟩, fun j u hu => ?_⟩) (fun b c => c.elim) hl
  cases j with
  | zero => simpa [eStr, hi] using hu
  | succ j => simp at hu
theorem Ow.slp {α : Type} {d : Enc α} {e : Nat} {w : World} {I : Nat → Prop} {v : Value} {xs : List α} (h : Ow d e w I v xs) :
    SlP d.sz w (fun _ => True) v xs.length (fun i h cs => d.R w I xs[i] cs) := by
  obtain ⟨cs, ho, he, hn⟩ := h
  have hcell := fun g hg => ho.cells (g := g) hg
  obtain ⟨hl, h2⟩ := ho
  rcases h2 with ⟨rfl, h0⟩ | ⟨g, cap, cur, rfl, _, hg, hnc, hcm, _⟩
  · have : xs = [] := List.eq_nil_of_length_eq_zero h0
    subst this
    exact ⟨none, 0, rfl, Nat.le_refl _, Nat.zero_le _, fun h => by simp at h⟩
  · refine ⟨some ⟨g, 0, none⟩, cap, rfl, hnc, hcm, fun _ => ⟨g, 0, rfl, trivial, (Array.getElem?_eq_some_iff.1 hg).1, fun i hi => ?_⟩⟩
    obtain ⟨c, hc, hj⟩ := he i hi
    refine ⟨c, hc, fun j u hu => ?_⟩
    have := hcell g rfl (i * d.sz + j) u (hj j u hu)
    have e1 : (⟨g, 0, none⟩ : Addr).add (i * d.sz + j) = ⟨g, 0 + i * d.sz + j, none⟩ := by unfold Addr.add; split <;> simp_all
    rwa [e1] at this
theorem SlP.of_sl {α : Type} {d : Enc α} {w : World} {B I : Nat → Prop} {v : Value} {xs : List α} (h : Sl d w B v xs) (hI : ∀ b, B b → I b) :
    SlP d.sz w (fun _ => True) v xs.length (fun i h cs => d.R w I xs[i] cs) :=
  SlP.move (fun b _ _ => ⟨trivial, rfl⟩) (fun i hi cs hr => d.move (fun b hb hl => ⟨hI b hb, rfl⟩) hr) h
/-- Elements that lead nowhere: any set serves. -/
theorem Ow.plain {α : Type} {d : Enc α} {e : Nat} {w : World} {I : Nat → Prop} {v : Value} {xs : List α} (h : Ow d e w I v xs) (hI : ∀ b, I b → False) : Ow d e w (fun _ => False) v xs :=
  h.mono (fun b hb _ => hI b hb) (fun _ _ c => c)
theorem app_below {B : Nat} {w0 w2 w' : World} {o : Obj} {row : Option Nat} (h : Below B w0 w2) (hB : B ≤ w0.heap.size) (hg : (w2.alloc o).grownBy w' row) (hr : ∀ g, row = some g → B ≤ g) : Below B w0 w' :=
  Below.grown (below_alloc h hB o) hg (by have := h.size; simp; omega) hr
theorem app_own {B : Nat} {w2 : World} {o : Obj} {v v' : Value} (hv : v'.ownBlock = v.ownBlock ∨ ∀ g, v'.ownBlock = some g → (w2.alloc o).heap.size ≤ g) (hr : ∀ g, v.ownBlock = some g → B ≤ g) (hB : B ≤ w2.heap.size) : ∀ g, v'.ownBlock = some g → B ≤ g := by
  intro g hg
  rcases hv with hv | hv
  · exact hr g (hv ▸ hg)
  · have := hv g hg
    simp at this
    omega
theorem Sl.take_ {α : Type} {d : Enc α} {w : World} {B : Nat → Prop} {A : Option Addr} {n cap : Nat} {xs : List α} (h : Sl d w B (.slice A n cap) xs) (k : Nat) (hk : k ≤ xs.length) : Sl d w B (.slice A k cap) (xs.take k) := by
  obtain ⟨A', cap', e, h1, h2, h3⟩ := h
  cases e
  have hl : (xs.take k).length = k := by rw [List.length_take]; omega
  refine ⟨A, cap, by rw [hl], by omega, h2, fun hn => ?_⟩
  obtain ⟨b, off, e, hB, hb, he⟩ := h3 (by omega)
  refine ⟨b, off, e, hB, hb, fun i hi => ?_⟩
  obtain ⟨cs, hr, hc⟩ := he i (by omega)
  exact ⟨cs, by show d.R w B (xs.take k)[i] cs; rw [List.getElem_take]; exact hr, hc⟩
end PR
end Go.Proofs.YtejbkjndipineaaGreatDoor
