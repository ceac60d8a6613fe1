/- More laws of single operations: append in a drawn region; the tail of a slice. -/
import Derived.Test.YtejbkjndipineaaGreatDoorTypes
namespace Go.Proofs.YtejbkjndipineaaGreatDoor
open Go Go.RowKit PR
set_option linter.unusedVariables false
set_option linter.unusedSimpArgs false
set_option maxHeartbeats 400000
set_option maxRecDepth 100000

/-- append inside a drawn region. -/
theorem op_app {P : Program} {α : Type} (d : Enc α) {o : Oper} {a : Act} {w : World} {K : Act → World → Prop} {Q : Exit → Act → World → Prop} (s x : Operand) (t e : TypeId)
    (ho : o.op = .call { callee := .builtin .append, args := #[s, x], argTypes := #[t, t] }) (ht : P.underlying t = some (.slice e)) (z : Value) (bytes : Nat)
    (hinfo : (P.info? e).map (fun i => (i.zero, i.size, i.bytes)) = some (some z, d.sz, bytes)) (hzs : z.cells.size = d.sz) (hsz : 0 < d.sz)
    (I : Nat → Prop) (v : Value) (xs : List α) (hs : a.eval s = v) (hown : Ow d e w I v xs) (y : Value) (ys : List α) (hx : a.eval x = y)
    (hy : SlP d.sz w (fun _ => True) y ys.length (fun i h cs => d.R w I ys[i] cs)) (h63 : xs.length + ys.length ≤ maxLen) (hb : (xs.length + ys.length) * bytes ≤ 140737488355328)
    (h : ∀ v' w', Ow d e w' (fun b => I b ∧ b < w.heap.size) v' (xs ++ ys) → w.grownBy w' v.ownBlock → (v'.ownBlock = v.ownBlock ∨ ∀ g, v'.ownBlock = some g → w.heap.size ≤ g) →
      K (a.put o.dst v') w') : Oper.wp P o a w K Q := by
  obtain ⟨v', w', hr, h2, h3, h4, h5⟩ := run_app (P := P) d t o.type e ht z bytes hinfo hzs hsz w I v xs hown y ys hy h63 hb
  unfold Oper.wp execOp
  simp only [ho, resolve, invoke, builtin, Sem.run_bind, Sem.run_pure, Result.andThen_ok, List.map_toArray, List.map_cons, List.map_nil, hs, hx, hr]
  exact h v' w' h2 h3 h4

theorem PR.Sl.tail_ {α : Type} {d : Enc α} {w : World} {B : Nat → Prop} {A : Option Addr} {n cap : Nat} {x : α} {xs : List α} (h : Sl d w B (.slice A n cap) (x :: xs)) : ∀ b o, A = some ⟨b, o, none⟩ → Sl d w B (.slice (some ⟨b, o + d.sz, none⟩) (n - 1) (cap - 1)) xs := by
  rintro b o rfl
  obtain ⟨A', cap', e, h1, h2, h3⟩ := h
  cases e
  refine ⟨some ⟨b, o + d.sz, none⟩, cap - 1, by simp, by simp at h1; omega, by omega, fun hn => ?_⟩
  obtain ⟨b', off, e, hB, hb, he⟩ := h3 (by simp)
  cases e
  refine ⟨b, o + d.sz, rfl, hB, hb, fun i hi => ?_⟩
  obtain ⟨cs, hr, hc⟩ := he (i + 1) (by simp; omega)
  refine ⟨cs, hr, fun j u hj => ?_⟩
  have := hc j u hj
  rw [Nat.add_mul, Nat.one_mul, Nat.add_comm (i * d.sz), ← Nat.add_assoc o] at this
  exact this

theorem PR.Sl.tail0 {α : Type} {d : Enc α} {w : World} {B : Nat → Prop} {A : Option Addr} {n : Nat} {x : α} {xs : List α} (h : Sl d w B (.slice A n 1) (x :: xs)) (A' : Option Addr) : Sl d w B (.slice A' (n - 1) 0) xs := by
  obtain ⟨A2, cap', e, h1, h2, h3⟩ := h
  cases e
  have : xs = [] := by
    cases xs with
    | nil => rfl
    | cons a l => simp at h1
  subst this
  exact ⟨A', 0, by simp, by simp, by unfold maxLen; omega, fun hn => by simp at hn⟩
theorem PR.Sl.plainSeg {w : World} {B I : Nat → Prop} {v : Value} {xs : List Seg} (h : Sl eSeg w B v xs) : SlP 2 w (fun _ => True) v xs.length (fun i h cs => eSeg.R w I xs[i] cs) :=
  SlP.move (fun b _ _ => ⟨trivial, rfl⟩) (fun i hi cs hr => hr) h
theorem PR.Sl.sl_at {w : World} {B : Nat → Prop} {A : Option Addr} {n cap : Nat} {xs : List (List Seg)} (h : Sl (eSl eSeg) w B (.slice A n cap) xs) (i : Nat) (hi : i < xs.length) :
    ∃ b off v, A = some ⟨b, off, none⟩ ∧ B b ∧ b < w.heap.size ∧ w.cell? ⟨b, off + i, none⟩ = some v ∧ Sl eSeg w B v xs[i] := by
  obtain ⟨b, off, cs, e, hB, hl, ⟨v, rfl, hv⟩, hc⟩ := h.at_ i hi
  exact ⟨b, off, v, e, hB, hl, by simpa [eSl] using hc 0 _ rfl, hv⟩
end Go.Proofs.YtejbkjndipineaaGreatDoor
