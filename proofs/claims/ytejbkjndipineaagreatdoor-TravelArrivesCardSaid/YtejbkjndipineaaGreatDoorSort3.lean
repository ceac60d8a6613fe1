/- Walk of rank.Sorted. -/
import Derived.Test.YtejbkjndipineaaGreatDoorSort2
import Derived.Shelf.Abstract
namespace Go.Proofs.YtejbkjndipineaaGreatDoor
open Go Go.RowKit PR
set_option linter.unusedVariables false
set_option linter.unusedSimpArgs false
set_option maxHeartbeats 400000
set_option maxRecDepth 100000
open Go.Shelf Go.Sort

def cfS (ls : List (List Seg)) (x y : Fin ls.length) : Int := compareS ls[x] ls[y]
/-- The places of patterns, in order. -/
def sortedS (ls : List (List Seg)) : List Int :=
  if h : 0 < ls.length then
    haveI : Inhabited (Fin ls.length) := ⟨⟨0, h⟩⟩
    (insertionSort (ltOf (cfS ls)) (Array.ofFn (fun i : Fin ls.length => i)) 0 (Array.ofFn (fun i : Fin ls.length => i)).size).toList.map (fun x => ((x.val : Nat) : Int))
  else []
theorem sortedS_perm (ls : List (List Seg)) : (sortedS ls).Perm ((List.range ls.length).map (fun k => ((k : Nat) : Int))) := by
  unfold sortedS
  split
  · next h =>
    letI : Inhabited (Fin ls.length) := ⟨⟨0, h⟩⟩
    refine ((insertion_perm (ltOf (cfS ls)) (Array.ofFn (fun i : Fin ls.length => i))).2.map _).trans (List.Perm.of_eq ?_)
    apply List.ext_getElem
    · simp
    · intro i h1 h2
      simp
  · next h =>
    have : ls.length = 0 := by omega
    rw [this]
    exact List.Perm.refl _

theorem sorted_calls (ls : List (List Seg)) (v : Value) (B : Nat → Prop) (w : World) (hl : Sl (eSl eSeg) w B v ls) (hpos : 0 < ls.length) (h20 : ls.length < 20) :
    Calls Tryz.prog 52 #[v] w fun e w' => ∃ r, e = .returned r ∧ Sl (eInt .i64) w' (fun b => w.heap.size ≤ b) r (sortedS ls) ∧ Below w.heap.size w w' := by
  obtain ⟨A, cap, rfl, hcap, hmax, -⟩ := hl.form
  unfold maxLen at hmax
  have he69 : ∀ args w, (callFunc 69 args).run Tryz.prog w = .ok (.enter 69 args) w := enters_of Tryz.func69 (by kernel_rfl) rfl
  have HE69 := Lib.hid he69
  have hmf : ∀ (fn : Fn) (first cap : Array Value) (w : World), (Instr.makeFunc fn first cap).run Tryz.prog w = .ok (.func fn first cap) w := fun _ _ _ _ => rfl
  clear he69
  have hal : Below w.heap.size w (w.alloc (.cells #[.slice A ls.length cap] 90)) := below_alloc (Below.refl _ _) (Nat.le_refl _) _
  have hbx : Blk (w.alloc (.cells #[.slice A ls.length cap] 90)) w.heap.size [.slice A ls.length cap] 90 := Blk.new w _ _
  have hl1 : Sl (eSl eSeg) (w.alloc (.cells #[.slice A ls.length cap] 90)) (fun b => b < w.heap.size) (.slice A ls.length cap) ls := (hl.low.below hal).mono (fun b hb => hb.2)
  have hsz1 : (w.alloc (.cells #[.slice A ls.length cap] 90)).heap.size = w.heap.size + 1 := by simp
  generalize hW : w.alloc (.cells #[.slice A ls.length cap] 90) = w1 at *
  have HW := Lib.hid hW
  have HZ1 := Lib.hid hsz1
  have HL1 := Lib.hid hl1
  clear hW hsz1 hl1
  go_enter Tryz.func52, Tryz.ntmps52
  have hc0 := hbx.cell 0
  simp only [List.getElem?_cons_zero] at hc0
  go_wp2_with fail
  rw [HW.out]
  go_wp2
  go_loopw [3, 7] (fun v i wr => ∃ k : Nat, i = .int .i64 k ∧ k ≤ ls.length ∧ Ow (eInt .i64) 3 wr (fun _ => False) v ((List.range k).map (fun k => ((k : Nat) : Int))) ∧ (∀ g, v.ownBlock = some g → w1.heap.size ≤ g) ∧ Below w1.heap.size w1 wr) (fun _ i _ => ls.length - (intOf i).toNat)
  case atStart => exact ⟨0, rfl, by omega, Ow.nil _ _ _ _, by simp [Value.ownBlock], Below.refl _ _⟩
  case round =>
    obtain ⟨k, rfl, hk, hown, hgb, hB⟩ := hrel
    have hle : Hid (((List.range k).map (fun k => ((k : Nat) : Int))).length = k) := Lib.hid (by simp)
    by_cases hlt : k < ls.length
    · have HT := Lib.hid (show (List.range (k + 1)).map (fun k => ((k : Nat) : Int)) = (List.range k).map (fun k => ((k : Nat) : Int)) ++ [((k : Nat) : Int)] by rw [List.range_succ, List.map_append]; rfl)
      generalize (List.range k).map (fun k => ((k : Nat) : Int)) = acc at *
      have hac : acc.length ≤ k := by rw [hle.out]; exact Nat.le_refl _
      obtain ⟨A0, cap0, rfl, hca0, hm0⟩ := hown.form
      unfold maxLen at hm0
      go_wp2_with (at_builtin; refine wp_app (eInt .i64) rfl (.tmp 10) (.tmp 12) 22 3 rfl Tryz.underlying22 (.int .i64 0) 8 infoInt rfl (by decide) (fun _ => False) _ acc rfl ?own _ [(k : Int)] rfl ?src ?c3 ?c4 ?_)
      case own => exact (hown.below (below_alloc (Below.refl _ _) (Nat.le_refl _) _)).plain (fun _ c => c.1)
      case src => exact one_new (eInt .i64) wr (fun _ => False) (k : Int) _ 3 rfl (fun b c => False.elim c)
      case c3 => unfold maxLen; show acc.length + 1 ≤ _; omega
      case c4 => show (acc.length + 1) * 8 ≤ _; omega
      intro v' w' hown' hg' hv'
      have hgb' := app_own (B := w1.heap.size) (w2 := wr) (o := .cells #[.int .i64 (k : Int)] 3) (by simpa using hv') hgb (by have := hB.size; omega)
      have hBn := app_below hB (Nat.le_refl _) hg' hgb
      clear hown hv' hg' hB
      go_wp2
      go_roundw
      case rel => exact ⟨k + 1, by go_num, by omega, by rw [HT.out]; exact hown', hgb', hBn⟩
      case measure => simp [intOf]; omega
    · have hkn : k = ls.length := by omega
      subst hkn
      have hlr : Hid (((List.range ls.length).map (fun k => ((k : Nat) : Int))).length = ls.length) := Lib.hid (by simp)
      have hs := hown.sl (B := fun _ => True) (fun _ c _ => False.elim c) (fun g hg => trivial)
      obtain ⟨cs, ho, he, hn⟩ := hown
      obtain ⟨hlc, h2⟩ := ho
      rcases h2 with ⟨rfl, h0⟩ | ⟨g, capg, cur, rfl, _, hg, hnc, hcm, hcz, htk⟩
      · rw [hlr.out] at h0
        omega
      · have hgw := hgb g rfl
        have hgl : g < wr.heap.size := (Array.getElem?_eq_some_iff.1 hg).1
        letI hinh : Inhabited (Fin ls.length) := ⟨⟨0, hpos⟩⟩
        have hR : Row1 (fun x : Fin ls.length => Value.int .i64 (x.val : Int)) wr g 0 (Array.ofFn (fun i : Fin ls.length => i)) := by
          refine ⟨fun x => rfl, fun j hj => ⟨?_, by simp [World.frozen?, hg]⟩, hgl⟩
          have hj' : j < ls.length := by simpa using hj
          obtain ⟨b', o', e', -, -, c⟩ := hs.int_at j (by rw [hlr.out]; exact hj')
          cases e'
          rw [c, getElem!_pos _ j hj]
          simp
        have hcmp : CmpLays1 Tryz.prog 69 #[.pointer (some ⟨w.heap.size, 0, none⟩)] (fun x : Fin ls.length => Value.int .i64 (x.val : Int)) (cfS ls) g 0 (Array.ofFn (fun i : Fin ls.length => i)).size wr := by
          intro m os dk hdk x y
          have hch : Ch (fun b => b = g) wr (sortWorld (fun x : Fin ls.length => Value.int .i64 (x.val : Int)) wr g 0 m dk os) := sw_ch ⟨m, os, rfl⟩
          have hcell : (sortWorld (fun x : Fin ls.length => Value.int .i64 (x.val : Int)) wr g 0 m dk os).cell? ⟨w.heap.size, 0, none⟩ = some (.slice A ls.length cap) :=
            hch.cell (below_cell hB hc0) (fun e => by have := HZ1.out; simp only at e; omega)
          have hsl := ((HL1.out).below hB).ch hch (fun b hb e => by have := HZ1.out; omega)
          refine (less_calls ls _ _ w.heap.size _ hcell hsl x.val y.val x.isLt y.isLt).mono ?_
          rintro e w' ⟨rfl, q, rfl⟩
          exact ⟨rfl, q, #[], by rw [grow_empty]⟩
        have hst := stable_calls (Array.ofFn (fun i : Fin ls.length => i)) (fun x : Fin ls.length => Value.int .i64 (x.val : Int)) g capg 69 #[.pointer (some ⟨w.heap.size, 0, none⟩)] (cfS ls) wr HE69.out hcmp hR (by simpa using h20)
        have hsize : (Array.ofFn (fun i : Fin ls.length => i)).size = ls.length := by simp
        have HST := Lib.hid hst
        have HSZ := Lib.hid hsize
        have HRR := Lib.hid hR
        have HCAP := Lib.hid hnc
        have HCM := Lib.hid hcm
        clear hst hsize hR hcmp hs htk hlc hcz hg hnc hcm he hn
        rw [hlr.out]
        have hcall : Calls Tryz.prog 68 #[.slice (some ⟨g, 0, none⟩) ls.length capg, .func (.func 69) #[] #[.pointer (some ⟨w.heap.size, 0, none⟩)]] wr fun e w' => e = .returned (.tuple #[]) ∧ Sl (eInt .i64) w' (fun b => b = g) (.slice (some ⟨g, 0, none⟩) ls.length capg) (sortedS ls) ∧ Ch (fun b => b = g) wr w' := by
          have h := HST.out
          have e : sortedS ls = (insertionSort (ltOf (cfS ls)) (Array.ofFn (fun i : Fin ls.length => i)) 0 (Array.ofFn (fun i : Fin ls.length => i)).size).toList.map (fun x => ((x.val : Nat) : Int)) := by
            unfold sortedS
            rw [dif_pos hpos]
          have hDs := (insertion_perm (ltOf (cfS ls)) (Array.ofFn (fun i : Fin ls.length => i))).1
          generalize insertionSort (ltOf (cfS ls)) (Array.ofFn (fun i : Fin ls.length => i)) 0 (Array.ofFn (fun i : Fin ls.length => i)).size = D at *
          rw [HSZ.out] at h
          refine h.mono ?_
          rintro e w' ⟨rfl, hsw⟩
          refine ⟨rfl, ?_, sw_ch hsw⟩
          have hDn : D.size = ls.length := by rw [hDs, HSZ.out]
          have hsl : (sortedS ls).length = ls.length := by rw [e]; simp [hDn]
          refine ⟨some ⟨g, 0, none⟩, capg, by rw [hsl], by have := HCAP.out; rw [hlr.out] at this; rw [hsl]; exact this, HCM.out, fun _ => ⟨g, 0, rfl, rfl, Nat.lt_of_lt_of_le hgl (sw_ch hsw).size, fun i hi => ⟨[.int .i64 (sortedS ls)[i]], rfl, fun j u hj => ?_⟩⟩⟩
          cases j with
          | zero =>
            simp only [List.getElem?_cons_zero, Option.some.injEq] at hj
            subst hj
            have hi' : i < D.size := by rw [hDn, ← hsl]; exact hi
            have h1 := SW.c1 hsw HRR.out hDs i hi'
            have e1 : (⟨g, 0 + i * (eInt .i64).sz + 0, none⟩ : Addr) = ⟨g, 0 + i, none⟩ := by simp [eInt]
            rw [e1, h1]
            simp only [e, List.getElem_map, Array.getElem_toList]
            rw [getElem!_pos D i hi']
          | succ j => simp at hj
        have HC := Lib.hid hcall
        clear hcall
        go_wp2_with fail
        refine HC.out.mono ?_
        rintro e w2 ⟨rfl, hs2, hch2⟩
        have hB2 : Below w1.heap.size w1 w2 := hB.trans (hch2.below hB.size (fun b hb e => by omega))
        go_wp2
        go_ret
        exact ⟨_, rfl, hs2.mono (fun b hb => by have := HZ1.out; omega), below_then hal (by have := HZ1.out; omega) hB2⟩
end Go.Proofs.YtejbkjndipineaaGreatDoor
