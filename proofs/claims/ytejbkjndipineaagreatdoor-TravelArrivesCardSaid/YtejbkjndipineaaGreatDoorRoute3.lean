/- Walks of route.Full, travel.rules. Walks of travel.rules, route.Named. -/
import Derived.Test.YtejbkjndipineaaGreatDoorOp2
import Derived.Test.YtejbkjndipineaaGreatDoorRoute2
import Derived.Test.YtejbkjndipineaaGreatDoorFunc
import Derived.Shelf.Abstract
namespace Go.Proofs.YtejbkjndipineaaGreatDoor
open Go Go.RowKit PR
set_option linter.unusedVariables false
set_option linter.unusedSimpArgs false
set_option maxHeartbeats 400000
set_option maxRecDepth 100000

def segsAt (l : List Record) (k : Int) : List Seg := match l[k.toNat]? with | some r => r.segs | none => []
/-- All segments of a record's chain. -/
def fullS (l : List Record) (i : Int) : List Seg := (chainS l i).flatMap (segsAt l)
theorem chainS_len (l : List Record) (i : Int) : (chainS l i).length ≤ l.length := by unfold chainS; rw [List.length_reverse]; exact chainT_len l i
theorem segsAt_eq (l : List Record) (k : Nat) (hk : k < l.length) : segsAt l k = l[k].segs := by simp [segsAt, hk]

theorem full_calls (l : List Record) (v : Value) (B : Nat → Prop) (w : World) (i0 : Int) (hl : Sl eRecord w B v l) (h16 : l.length ≤ 4096) (hsg : ∀ r ∈ l, r.segs.length ≤ 65536) :
    Calls Tryz.prog 33 #[v, .int .i64 i0] w fun e w' => ∃ r, e = .returned r ∧ Sl eSeg w' (fun b => w.heap.size ≤ b) r (fullS l i0) ∧ Below w.heap.size w w' := by
  obtain ⟨A, cap, rfl, hcap, hmax, -⟩ := hl.form
  unfold maxLen at hmax
  have HSG := Lib.hid hsg
  clear hsg
  go_enter Tryz.func33, Tryz.ntmps33
  go_wp2_with fail
  refine (chain_calls l _ B _ i0 hl h16).mono ?_
  rintro e w1 ⟨cv, rfl, hch, hb1⟩
  have hlen := chainS_len l i0
  have HM : Hid (∀ x ∈ chainS l i0, 0 ≤ x ∧ x < l.length) := Lib.hid (fun x hx => chainS_mem hx)
  have HF : Hid (fullS l i0 = (chainS l i0).flatMap (segsAt l)) := Lib.hid rfl
  generalize chainS l i0 = ch at *
  obtain ⟨Ac, capc, rfl, hcc, hmc, -⟩ := hch.form
  unfold maxLen at hmc
  have hz1 := hb1.size
  go_wp2
  go_loopw [5, 12] (fun v i wr => ∃ (k : Nat) (acc : List Seg), i = .int .i64 k ∧ k ≤ ch.length ∧ acc.length ≤ 65536 * k ∧ Ow eSeg 59 wr (fun _ => False) v acc ∧ (∀ g, v.ownBlock = some g → w1.heap.size ≤ g) ∧ Below w1.heap.size w1 wr ∧ Hid (acc ++ (ch.drop k).flatMap (segsAt l) = fullS l i0)) (fun _ i _ => ch.length - (intOf i).toNat)
  case atStart => exact ⟨0, [], rfl, by omega, by simp, Ow.nil _ _ _ _, by simp [Value.ownBlock], Below.refl _ _, Lib.hid (by rw [HF.out]; rfl)⟩
  case round =>
    obtain ⟨k, acc, rfl, hk, hac, hown, hgb, hB, hD⟩ := hrel
    have hBw := below_then hb1 (Nat.le_refl _) hB
    obtain ⟨A0, cap0, rfl, hc0, hm0⟩ := hown.form
    unfold maxLen at hm0
    by_cases hlt : k < ch.length
    · obtain ⟨b, off, rfl, -, -, c⟩ := hch.int_at k hlt
      replace c := below_cell hB c
      have hx := HM.out ch[k] (List.getElem_mem hlt)
      have hD' := hD.out
      rw [List.drop_eq_getElem_cons hlt, List.flatMap_cons] at hD'
      generalize ch[k] = x at *
      obtain ⟨m, rfl⟩ := Int.eq_ofNat_of_zero_le hx.1
      have hm : m < l.length := by omega
      rw [segsAt_eq l m hm] at hD'
      obtain ⟨b2, off2, sv, rfl, -, -, hsv, -, -, c2, -⟩ := hl.record_at m hm
      have hsvl := HSG.out l[m] (List.getElem_mem hm)
      replace c2 := below_cell hBw c2
      have hsv1 := hsv.below hBw
      generalize l[m].segs = sg at *
      obtain ⟨A3, cap3, rfl, -, -, -⟩ := hsv.form
      have HD := Lib.hid (show (acc ++ sg) ++ (ch.drop (k + 1)).flatMap (segsAt l) = fullS l i0 by rw [← hD']; simp)
      clear hD hD' hsv hx
      go_wp2_with (at_builtin; refine wp_app eSeg rfl (.tmp 16) (.tmp 21) 42 59 rfl Tryz.underlying42 (.agg #[.int .i64 0, .string ⟨#[]⟩]) 24 infoSeg rfl (by decide) (fun _ => False) _ acc rfl ?own _ sg rfl ?src ?c3 ?c4 ?_)
      case own => exact hown
      case src => exact Sl.plainSeg hsv1
      case c3 => unfold maxLen; omega
      case c4 => omega
      intro v' w' hown' hg' hv'
      have hgb' : ∀ g, v'.ownBlock = some g → w1.heap.size ≤ g := by
        intro g hg
        rcases hv' with hv | hv
        · exact hgb g (hv ▸ hg)
        · have := hv g hg
          have := hB.size
          omega
      have hBn := below_grown hB (Nat.le_refl _) hg' hgb
      have hown3 := hown'.plain (fun _ c => c)
      clear hown hv' hg' hown' hsv1
      intro _
      go_wp2
      go_roundw
      case rel => exact ⟨k + 1, acc ++ sg, by go_num, by omega, by simp; omega, hown3, hgb', hBn, HD⟩
      case measure => simp [intOf]; omega
    · have hD' := hD.out
      rw [List.drop_eq_nil_of_le (by omega), List.flatMap_nil, List.append_nil] at hD'
      have HD := Lib.hid hD'
      clear hD hD'
      go_wp2
      go_ret
      exact ⟨_, rfl, by rw [← HD.out]; exact hown.sl (fun _ c _ => False.elim c) (fun g hg => by have := hgb g hg; omega), hBw⟩

open Go Go.RowKit PR
set_option linter.unusedVariables false
set_option linter.unusedSimpArgs false
set_option maxHeartbeats 400000
set_option maxRecDepth 100000

def ruleAt (l : List Record) (k : Int) : Rule := match l[k.toNat]? with | some r => r.rule | none => ⟨0, 0, ⟨#[]⟩⟩
theorem ruleAt_eq (l : List Record) (k : Nat) (hk : k < l.length) : ruleAt l k = l[k].rule := by simp [ruleAt, hk]

theorem rules_calls (l : List Record) (ch : List Int) (v cv : Value) (B : Nat → Prop) (w : World) (hl : Sl eRecord w B v l) (hch : Sl (eInt .i64) w B cv ch) (h16 : ch.length ≤ 4096) (hm : ∀ x ∈ ch, 0 ≤ x ∧ x < l.length) :
    Calls Tryz.prog 18 #[v, cv] w fun e w' => ∃ r, e = .returned r ∧ Sl eRule w' (fun b => w.heap.size ≤ b) r (ch.map (ruleAt l)) ∧ Below w.heap.size w w' := by
  obtain ⟨A, cap, rfl, hcap, hmax, -⟩ := hl.form
  unfold maxLen at hmax
  obtain ⟨Ac, capc, rfl, hcc, hmc, -⟩ := hch.form
  unfold maxLen at hmc
  have HM := Lib.hid hm
  clear hm
  go_enter Tryz.func18, Tryz.ntmps18
  go_wp2
  go_loopw [5, 10] (fun v i wr => ∃ (k : Nat) (acc : List Rule), i = .int .i64 k ∧ k ≤ ch.length ∧ acc.length ≤ k ∧ Ow eRule 44 wr (fun _ => False) v acc ∧ (∀ g, v.ownBlock = some g → w.heap.size ≤ g) ∧ Below w.heap.size w wr ∧ Hid (acc ++ (ch.drop k).map (ruleAt l) = ch.map (ruleAt l))) (fun _ i _ => ch.length - (intOf i).toNat)
  case atStart => exact ⟨0, [], rfl, by omega, by simp, Ow.nil _ _ _ _, by simp [Value.ownBlock], Below.refl _ _, Lib.hid rfl⟩
  case round =>
    obtain ⟨k, acc, rfl, hk, hac, hown, hgb, hB, hD⟩ := hrel
    obtain ⟨A0, cap0, rfl, hc0, hm0⟩ := hown.form
    unfold maxLen at hm0
    by_cases hlt : k < ch.length
    · obtain ⟨b, off, rfl, -, -, c⟩ := hch.int_at k hlt
      replace c := below_cell hB c
      have hx := HM.out ch[k] (List.getElem_mem hlt)
      have hD' := hD.out
      rw [List.drop_eq_getElem_cons hlt, List.map_cons] at hD'
      generalize ch[k] = x at *
      obtain ⟨m, rfl⟩ := Int.eq_ofNat_of_zero_le hx.1
      have hm : m < l.length := by omega
      rw [ruleAt_eq l m hm] at hD'
      obtain ⟨b2, off2, sv, rfl, -, -, -, -, -, -, -, -, c5, c6, c7, -, hto⟩ := hl.record_at m hm
      replace c5 := below_cell hB c5
      replace c6 := below_cell hB c6
      replace c7 := below_cell hB c7
      generalize l[m].rule = ru at *
      have HD := Lib.hid (show (acc ++ [ru]) ++ (ch.drop (k + 1)).map (ruleAt l) = ch.map (ruleAt l) by rw [← hD']; simp)
      obtain ⟨kk, ff, tt⟩ := ru
      simp only at c5 c6 c7 hto
      clear hD hD' hx
      go_wp2_with (at_builtin; refine wp_app eRule rfl (.tmp 14) (.tmp 20) 41 44 rfl Tryz.underlying41 (.agg #[.int .i64 0, .int .i64 0, .string ⟨#[]⟩]) 32 infoRule rfl (by decide) (fun _ => False) _ acc rfl ?own _ [⟨kk, ff, tt⟩] rfl ?src ?c3 ?c4 ?_)
      case own => exact (hown.below (below_alloc (Below.refl _ _) (Nat.le_refl _) _)).plain (fun _ c => c.1)
      case src => exact one_new eRule wr (fun _ => False) ⟨kk, ff, tt⟩ _ 44 (eRule_mk _ _ _ hto) (fun b c => False.elim c)
      case c3 => unfold maxLen; show acc.length + 1 ≤ _; omega
      case c4 => show (acc.length + 1) * 32 ≤ _; omega
      intro v' w' hown' hg' hv'
      have hgb' := app_own (B := w.heap.size) (w2 := wr) (o := .cells #[.int .i64 kk, .int .i64 ff, .string tt] 44) (by simpa using hv') hgb (by have := hB.size; omega)
      have hBn := app_below hB (Nat.le_refl _) hg' hgb
      clear hown hv' hg'
      go_wp2
      go_roundw
      case rel => exact ⟨k + 1, acc ++ [⟨kk, ff, tt⟩], by go_num, by omega, by simp; omega, hown', hgb', hBn, HD⟩
      case measure => simp [intOf]; omega
    · have hD' := hD.out
      rw [List.drop_eq_nil_of_le (by omega), List.map_nil, List.append_nil] at hD'
      have HD := Lib.hid hD'
      clear hD hD'
      go_wp2
      go_ret
      exact ⟨_, rfl, by rw [← HD.out]; exact hown.sl (fun _ c _ => False.elim c) (fun g hg => by have := hgb g hg; omega), hB⟩

/-- The place of a record's name. -/
def namedR (l : List Record) (s : ByteArray) : Int := idxS (fun r => decide (r.name = s)) 0 l
theorem namedC_calls (x : Record) (sv : Value) (s : ByteArray) (b : Nat) (w : World) (hc : w.cell? ⟨b, 0, none⟩ = some (.string s)) :
    Calls Tryz.prog 57 (#[.agg #[.string x.name, .int .i64 x.parent, sv, .int .i64 x.comp, .bool x.keep, .int .i64 x.rule.kind, .int .i64 x.rule.flag, .string x.rule.to]] ++ #[.pointer (some ⟨b, 0, none⟩)]) w fun e w' => e = .returned (.bool (decide (x.name = s))) ∧ Below w.heap.size w w' := by
  have hbl := World.block_lt_of_cell? w _ hc
  simp only at hbl
  have h2 : (x.name.toList == s.toList) = decide (x.name = s) := beq_list _ _
  have HR := Lib.hid h2
  go_enter Tryz.func57, Tryz.ntmps57
  go_wp2
  repeat (go_quiet (fail); try go_wp2)
  go_ret
  exact ⟨by rw [← HR.out]; rfl, by (repeat (first | assumption | exact Below.refl _ _ | apply Below.drew | apply below_drewN | refine below_alloc ?_ (Nat.le_refl _) _ | refine below_then ?_ (Nat.le_refl _) (by assumption)))⟩

theorem namedR_calls (l : List Record) (v : Value) (B : Nat → Prop) (w : World) (s : ByteArray) (hl : Sl eRecord w B v l) :
    Calls Tryz.prog 37 #[v, .string s] w fun e w' => e = .returned (.int .i64 (namedR l s)) ∧ Below w.heap.size w w' := by
  obtain ⟨A, cap, rfl, hcap, hmax, -⟩ := hl.form
  have he57 : ∀ args w, (callFunc 57 args).run Tryz.prog w = .ok (.enter 57 args) w := enters_of Tryz.func57 (by kernel_rfl) rfl
  have hmf : ∀ (fn : Fn) (first cap : Array Value) (w : World), (Instr.makeFunc fn first cap).run Tryz.prog w = .ok (.func fn first cap) w := fun _ _ _ _ => rfl
  have HE57 := Lib.hid he57
  clear he57
  have hal : Below w.heap.size w (w.alloc (.cells #[.string s] 9)) := below_alloc (Below.refl _ _) (Nat.le_refl _) _
  have hcl : Hid (∀ x ∈ l, ∀ sv wx, Below (w.alloc (.cells #[.string s] 9)).heap.size (w.alloc (.cells #[.string s] 9)) wx → Calls Tryz.prog 57 (#[.agg #[.string x.name, .int .i64 x.parent, sv, .int .i64 x.comp, .bool x.keep, .int .i64 x.rule.kind, .int .i64 x.rule.flag, .string x.rule.to]] ++ #[.pointer (some ⟨w.heap.size, 0, none⟩)]) wx fun e w' => e = .returned (.bool (decide (x.name = s))) ∧ Below wx.heap.size wx w') :=
    Lib.hid (fun x _ sv wx hwx => namedC_calls x sv s w.heap.size wx (below_cell hwx ((Blk.new w [.string s] 9).cell 0)))
  go_enter Tryz.func37, Tryz.ntmps37
  go_wp2_with fail
  refine (indexRec_calls l _ B _ _ _ (fun r => decide (r.name = s)) HE57.out (hl.below hal) hcl).mono ?_
  rintro e w1 ⟨rfl, hb1⟩
  go_wp2
  go_ret
  exact ⟨rfl, below_then hal (Nat.le_refl _) hb1⟩
end Go.Proofs.YtejbkjndipineaaGreatDoor
