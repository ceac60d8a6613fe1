/- Walk of route.Right. -/
import Derived.Test.YtejbkjndipineaaGreatDoorRoute3
import Derived.Test.YtejbkjndipineaaGreatDoorPat
import Derived.Maps.OwnSet
import Derived.Maps.Ext
import Derived.StringKeys
namespace Go.Proofs.YtejbkjndipineaaGreatDoor
open Go Go.RowKit PR
set_option linter.unusedVariables false
set_option linter.unusedSimpArgs false
set_option maxHeartbeats 400000
set_option maxRecDepth 100000
open Go.Maps

def cntS (l : List Record) (s : ByteArray) : Nat := (l.filter (fun r => decide (r.name = s))).length
def rightGo (l : List Record) : Nat → List Record → Bool
  | _, [] => true
  | i, r :: rs => patR [⟨0, r.name⟩] && decide (cntS (l.take i) r.name = 0) && decide (-1 ≤ r.parent) && decide (r.parent < (i : Int)) && patR (fullS l i) && rightGo l (i + 1) rs
/-- May records be? -/
def rightRec (l : List Record) : Bool := decide (1 ≤ l.length) && decide (l.length ≤ 16) && rightGo l 0 l

theorem keyStr : Keyed Tryz.prog 9 := string_keyed Tryz.underlying9
theorem zeroI (w : World) : (zeroValue 3).run Tryz.prog w = .ok (.int .i64 0) w := by kernel_rfl
/-- A map from names to how often they came. -/
def NM (w : World) (b n : Nat) (l : List Record) : Prop := ∃ D : DataW Unit, w.ownsMap Tryz.prog 9 (plainElem Tryz.prog 3) b n D ∧ ∀ s : ByteArray, D.atKey (.string s.data.toList) (.lit (.int .i64 0)) = .lit (.int .i64 (cntS l s))
theorem NM.made (w : World) : NM (w.alloc (.map #[] 0)) w.heap.size 0 [] := ⟨_, World.ownsMap_made _ _ _ _, fun s => rfl⟩
theorem NM.kept {w w' : World} {b n : Nat} {l : List Record} (h : NM w b n l) (k : Below w.heap.size w w') : NM w' b n l := by
  obtain ⟨D, h1, h2⟩ := h
  exact ⟨D, h1.kept (row := none) ⟨k.os, k.tape, k.output, k.size, fun i hi _ => k.block i hi⟩ (by simp), h2⟩
theorem NM.look {w : World} {b n : Nat} {l : List Record} (h : NM w b n l) (s : ByteArray) (hs : s.size ≤ maxLen) : (Instr.lookup 108 (.map (some b)) (.string s) false).run Tryz.prog w = .ok (.int .i64 (cntS l s)) w := by
  obtain ⟨D, h1, h2⟩ := h
  obtain ⟨c, hrun, hat, hwc⟩ := h1.lookup_int keyStr Tryz.underlying108 Tryz.underlying3 (zeroI w) (Go.WideMaps.keyOf_string_mk Tryz.underlying9 hs)
  rw [h2 s] at hat
  cases hat
  exact hrun
theorem NM.put {w' : World} {b n : Nat} {l : List Record} (r : Record) {D : DataW Unit} (h2 : ∀ s : ByteArray, D.atKey (.string s.data.toList) (.lit (.int .i64 0)) = .lit (.int .i64 (cntS l s))) (hD : IsMap D)
    (h : w'.ownsMap Tryz.prog 9 (plainElem Tryz.prog 3) b n (D.put (.string r.name.data.toList) (.lit (.int .i64 ((cntS l r.name : Int) + 1))))) : NM w' b n (l ++ [r]) := by
  refine ⟨_, h, fun s => ?_⟩
  have hc : cntS (l ++ [r]) s = cntS l s + if r.name = s then 1 else 0 := by
    unfold cntS
    rw [List.filter_append, List.length_append]
    by_cases e : r.name = s <;> simp [e]
  by_cases e : r.name = s
  · subst e
    rw [atKey_put_same hD (k := .string r.name.data.toList) (by trivial), hc, if_pos rfl]
    simp
  · rw [atKey_put_other (fun e2 => e (by
      have : s.data.toList = r.name.data.toList := by simpa using e2
      have h3 : s.data = r.name.data := Array.toList_inj.1 this
      cases s; cases hr : r.name; simp_all)), h2 s, hc, if_neg e]
    simp
theorem NM.isMap {w : World} {b n : Nat} {D : DataW Unit} (h : w.ownsMap Tryz.prog 9 (plainElem Tryz.prog 3) b n D) : IsMap D := by
  obtain ⟨es, c, -, -, -, rfl⟩ := h
  exact ⟨_, rfl⟩

theorem NM.grown {w w' : World} {b n : Nat} {l : List Record} {row : Option Nat} (h : NM w b n l) (k : w.grownBy w' row) (hr : some b ≠ row) : NM w' b n l := by
  obtain ⟨D, h1, h2⟩ := h
  exact ⟨D, h1.kept k hr, h2⟩
theorem NM.lt {w : World} {b n : Nat} {l : List Record} (h : NM w b n l) : b < w.heap.size := by
  obtain ⟨D, h1, h2⟩ := h
  exact h1.lt

set_option maxHeartbeats 4000000 in
theorem rightRec_calls (l : List Record) (v : Value) (B : Nat → Prop) (w : World) (hl : Sl eRecord w B v l) (hsg : ∀ r ∈ l, r.segs.length ≤ 65536) :
    Calls Tryz.prog 32 #[v] w fun e w' => e = .returned (.bool (rightRec l)) ∧ Below w.heap.size w w' := by
  obtain ⟨A, cap, rfl, hcap, hmax, -⟩ := hl.form
  unfold maxLen at hmax
  have hmm := @run_makeMap Tryz.prog
  by_cases h1 : 1 ≤ l.length
  · have d1 : decide ((l.length : Int) < 1) = false := decide_eq_false (by omega)
    have d1' : decide (l.length < 1) = false := decide_eq_false (by omega)
    by_cases h16 : l.length ≤ 16
    · have d2 : decide ((16 : Int) < (l.length : Int)) = false := decide_eq_false (by omega)
      have d2' : decide (16 < l.length) = false := decide_eq_false (by omega)
      have HR := Lib.hid (show rightRec l = rightGo l 0 l by unfold rightRec; rw [decide_eq_true h1, decide_eq_true h16]; rfl)
      have HSG := Lib.hid hsg
      clear hsg
      go_enter Tryz.func32, Tryz.ntmps32
      go_wp2
      go_loopw [18] (fun i wr => ∃ k : Nat, k ≤ l.length ∧ i = .int .i64 k ∧ Below w.heap.size w wr ∧ Hid (NM wr w.heap.size k (l.take k)) ∧ Hid (rightGo l k (l.drop k) = rightRec l)) (fun i _ => l.length - (intOf i).toNat)
      case atStart => exact ⟨0, by omega, rfl, below_alloc (Below.refl _ _) (Nat.le_refl _) _, Lib.hid (NM.made w), Lib.hid (by rw [HR.out]; rfl)⟩
      case round =>
        obtain ⟨k, hk, rfl, hB, hN, hS⟩ := hrel
        by_cases hlt : k < l.length
        · obtain ⟨b, off, sv, rfl, -, -, hsv, c0, c1, c2, c3, c4, c5, c6, c7, hnm, -⟩ := hl.record_at k hlt
          obtain ⟨As, caps, rfl, -, -, -⟩ := hsv.form
          generalize hln : (l[k]).segs.length = ln at *
          clear hsv hln
          replace c0 := below_cell hB c0
          replace c1 := below_cell hB c1
          replace c2 := below_cell hB c2
          replace c3 := below_cell hB c3
          replace c4 := below_cell hB c4
          replace c5 := below_cell hB c5
          replace c6 := below_cell hB c6
          replace c7 := below_cell hB c7
          have hS' := hS.out
          rw [List.drop_eq_getElem_cons hlt, rightGo] at hS'
          have htk : Hid (l.take (k + 1) = l.take k ++ [l[k]]) := Lib.hid (List.take_succ_eq_append_getElem hlt)
          generalize l[k] = r at *
          clear hS
          have hmb := hN.out.lt
          obtain ⟨wo, rfl⟩ : ∃ wo : World, wo = wr := ⟨_, rfl⟩
          have hal : Below w.heap.size w ((wo.alloc (.cells #[.string r.name, .int .i64 r.parent, .slice As ln caps, .int .i64 r.comp, .bool r.keep, .int .i64 r.rule.kind, .int .i64 r.rule.flag, .string r.rule.to] 46)).alloc (.cells #[.int .i64 0, .string r.name] 59)) := below_alloc (below_alloc hB (Nat.le_refl _) _) (Nat.le_refl _) _
          have hal0 : Below wo.heap.size wo ((wo.alloc (.cells #[.string r.name, .int .i64 r.parent, .slice As ln caps, .int .i64 r.comp, .bool r.keep, .int .i64 r.rule.kind, .int .i64 r.rule.flag, .string r.rule.to] 46)).alloc (.cells #[.int .i64 0, .string r.name] 59)) := below_alloc (below_alloc (Below.refl _ _) (Nat.le_refl _) _) (Nat.le_refl _) _
          have hsl : Sl eSeg ((wo.alloc (.cells #[.string r.name, .int .i64 r.parent, .slice As ln caps, .int .i64 r.comp, .bool r.keep, .int .i64 r.rule.kind, .int .i64 r.rule.flag, .string r.rule.to] 46)).alloc (.cells #[.int .i64 0, .string r.name] 59)) (fun _ => True) (.slice (some ⟨wo.heap.size + 1, 0, none⟩) 1 1) [⟨0, r.name⟩] := by
            have := (Ow.lit1 eSeg 59 (wo.alloc (.cells #[.string r.name, .int .i64 r.parent, .slice As ln caps, .int .i64 r.comp, .bool r.keep, .int .i64 r.rule.kind, .int .i64 r.rule.flag, .string r.rule.to] 46)) (fun _ => False) ⟨0, r.name⟩ _ (eSeg_mk _ _ _ hnm) (fun b c => False.elim c)).sl (B := fun _ => True) (fun _ _ _ => trivial) (fun _ _ => trivial)
            rw [show (wo.alloc (.cells #[.string r.name, .int .i64 r.parent, .slice As ln caps, .int .i64 r.comp, .bool r.keep, .int .i64 r.rule.kind, .int .i64 r.rule.flag, .string r.rule.to] 46)).heap.size = wo.heap.size + 1 by simp] at this
            exact this
          have hzo := hB.size
          go_wp2_with fail
          refine (patRight_calls _ _ _ _ hsl).mono ?_
          rintro e w1 ⟨rfl, hb1⟩
          have hbx : Blk w1 wo.heap.size [.string r.name, .int .i64 r.parent, .slice As ln caps, .int .i64 r.comp, .bool r.keep, .int .i64 r.rule.kind, .int .i64 r.rule.flag, .string r.rule.to] 46 := ((Blk.new wo _ _).alloc _).below hb1 (by simp; omega)
          have hB1 := below_then hal (Nat.le_refl _) hb1
          have hB01 := below_then hal0 (Nat.le_refl _) hb1
          have hN1 := Lib.hid (hN.out.kept hB01)
          have e0 := hbx.cell 0
          have e1 := hbx.cell 1
          simp only [List.getElem?_cons_zero, List.getElem?_cons_succ] at e0 e1
          clear hal hal0 hsl hb1 c0 c1 c2 c3 c4 c5 c6 c7 hN
          generalize patR [⟨0, r.name⟩] = nb at *
          cases nb with
          | false =>
            have HF := Lib.hid (show false = rightRec l by rw [← hS']; simp)
            clear hS'
            go_wp2
            go_ret
            exact ⟨by rw [← HF.out]; rfl, hB1⟩
          | true =>
            have hlook := hN1.out.look r.name hnm
            by_cases hc : cntS (l.take k) r.name = 0
            · have HC := Lib.hid hc
              rw [hc] at hlook
              rw [decide_eq_true hc] at hS'
              simp only [Bool.true_and] at hS'
              clear hc
              have hz0 : ((0 : Nat) : Int) = 0 := rfl
              rw [hz0] at hlook
              clear hz0
              by_cases hp1 : -1 ≤ r.parent
              · have q1 : decide (r.parent < -1) = false := decide_eq_false (by omega)
                rw [decide_eq_true hp1] at hS'
                by_cases hp2 : r.parent < (k : Int)
                · have q2 : decide ((k : Int) ≤ r.parent) = false := decide_eq_false (by omega)
                  rw [decide_eq_true hp2] at hS'
                  simp only [Bool.true_and] at hS'
                  clear hp1 hp2
                  go_wp2_with fail
                  refine (full_calls l _ B _ k (hl.below hB1) (by omega) HSG.out).mono ?_
                  rintro e w2 ⟨fv, rfl, hfv, hb2⟩
                  have hB2 := below_then hB1 (Nat.le_refl _) hb2
                  obtain ⟨Af, capf, rfl, -, -, -⟩ := hfv.form
                  go_wp2_with fail
                  refine (patRight_calls _ _ _ _ hfv).mono ?_
                  rintro e w3 ⟨rfl, hb3⟩
                  have hb23 := below_then hb2 (Nat.le_refl _) hb3
                  have hB3 := below_then hB1 (Nat.le_refl _) hb23
                  have hbx3 := hbx.below hb23 hbx.lt
                  have f0 := hbx3.cell 0
                  simp only [List.getElem?_cons_zero, List.getElem?_cons_succ] at f0
                  have hN3 := hN1.out.kept hb23
                  generalize fullS l k = fl at *
                  generalize patR fl = fb at *
                  clear hfv hb2 hb3 hb23 hbx e0 e1 hlook hbx3
                  cases fb with
                  | false =>
                    have HF := Lib.hid (show false = rightRec l by rw [← hS']; simp)
                    clear hS'
                    go_wp2
                    go_ret
                    exact ⟨by rw [← HF.out]; rfl, hB3⟩
                  | true =>
                    have HS := Lib.hid (show rightGo l (k + 1) (l.drop (k + 1)) = rightRec l by rw [← hS']; simp)
                    clear hS'
                    have hlook3 := hN3.look r.name hnm
                    rw [HC.out] at hlook3
                    have hz0 : ((0 : Nat) : Int) = 0 := rfl
                    rw [hz0] at hlook3
                    clear hz0
                    obtain ⟨D, hown, h2⟩ := hN3
                    have hIM := NM.isMap hown
                    have H2 := Lib.hid h2
                    clear h2
                    go_wp2_with (at_mapUpdate; refine wpList_mapUpdate_own _ rfl _ _ _ 108 rfl 9 3 keyStr Tryz.underlying108 _ w.heap.size k _ rfl hown (by unfold maxLen; omega) _ _ _ rfl rfl (Go.WideMaps.keyOf_string_mk Tryz.underlying9 hnm) _ [] (plainElem_int Tryz.underlying3 (a := 1) (by decide)) ?_; intro w4 hown4 hgrow4)
                    have hN4 := Lib.hid (show NM w4 w.heap.size (k + 1) (l.take (k + 1)) by
                      rw [htk.out]
                      refine NM.put r H2.out hIM ?_
                      rw [HC.out]
                      exact hown4)
                    have hB4 : Below w.heap.size w w4 := below_grown hB3 (Nat.le_refl _) hgrow4 (fun g hg => by cases hg; exact Nat.le_refl _)
                    clear hown hown4 hgrow4
                    go_wp2
                    go_roundw
                    case rel => exact ⟨k + 1, by omega, by go_num, hB4, hN4, HS⟩
                    case measure => simp [intOf]; omega
                · have q2 : decide ((k : Int) ≤ r.parent) = true := decide_eq_true (by omega)
                  rw [decide_eq_false hp2] at hS'
                  have HF := Lib.hid (show false = rightRec l by rw [← hS']; simp)
                  clear hS' hp1 hp2
                  go_wp2
                  go_ret
                  exact ⟨by rw [← HF.out]; rfl, hB1⟩
              · have q1 : decide (r.parent < -1) = true := decide_eq_true (by omega)
                rw [decide_eq_false hp1] at hS'
                have HF := Lib.hid (show false = rightRec l by rw [← hS']; simp)
                clear hS' hp1
                go_wp2
                go_ret
                exact ⟨by rw [← HF.out]; rfl, hB1⟩
            · have hcd : decide ((0 : Int) < (cntS (l.take k) r.name : Int)) = true := decide_eq_true (by omega)
              have hcd' : decide (0 < cntS (l.take k) r.name) = true := decide_eq_true (by omega)
              rw [decide_eq_false hc] at hS'
              have HF := Lib.hid (show false = rightRec l by rw [← hS']; simp)
              clear hS' hc
              generalize cntS (l.take k) r.name = c at *
              go_wp2
              go_ret
              exact ⟨by rw [← HF.out]; rfl, hB1⟩
        · have hS' := hS.out
          rw [List.drop_eq_nil_of_le (by omega), rightGo] at hS'
          have HS := Lib.hid hS'
          clear hS hS'
          go_wp2
          go_ret
          exact ⟨by rw [← HS.out]; rfl, hB⟩
    · have d2 : decide ((16 : Int) < (l.length : Int)) = true := decide_eq_true (by omega)
      have d2' : decide (16 < l.length) = true := decide_eq_true (by omega)
      have HR := Lib.hid (show rightRec l = false by unfold rightRec; rw [decide_eq_false h16]; simp)
      clear h16 h1
      go_enter Tryz.func32, Tryz.ntmps32
      go_wp2
      go_ret
      exact ⟨by rw [HR.out]; rfl, Below.refl _ _⟩
  · have d1 : decide ((l.length : Int) < 1) = true := decide_eq_true (by omega)
    have d1' : decide (l.length < 1) = true := decide_eq_true (by omega)
    have HR := Lib.hid (show rightRec l = false by unfold rightRec; rw [decide_eq_false h1]; simp)
    clear h1
    go_enter Tryz.func32, Tryz.ntmps32
    go_wp2
    go_ret
    exact ⟨by rw [HR.out]; rfl, Below.refl _ _⟩
end Go.Proofs.YtejbkjndipineaaGreatDoor
