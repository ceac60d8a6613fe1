/- Walks of pattern.named, pattern.Right. -/
import Derived.Test.YtejbkjndipineaaGreatDoorFunc
import Derived.Test.YtejbkjndipineaaGreatDoorShelf
import Derived.Shelf.Strings.SlTrimAscii
import Derived.Shelf.Abstract
namespace Go.Proofs.YtejbkjndipineaaGreatDoor
open Go Go.RowKit PR
set_option linter.unusedVariables false
set_option linter.unusedSimpArgs false
set_option maxHeartbeats 400000
set_option maxRecDepth 100000

def lettersL : List UInt8 := [97, 98, 99, 100, 101, 102, 103, 104, 105, 106, 107, 108, 109, 110, 111, 112, 113, 114, 115, 116, 117, 118, 119, 120, 121, 122, 48, 49, 50, 51, 52, 53, 54, 55, 56, 57]
/-- May a text be a segment's? -/
def namedS (s : ByteArray) : Bool := decide (s.size ≠ 0) && decide (s.size ≤ 16) && (Lib.trimS s.data.toList lettersL).isEmpty

theorem named_calls (s : ByteArray) (w : World) (hs : s.size ≤ maxLen) :
    Calls Tryz.prog 66 #[.string s] w fun e w' => e = .returned (.bool (namedS s)) ∧ Below w.heap.size w w' := by
  unfold maxLen at hs
  by_cases hz : s.size = 0
  · have hr : s = ⟨#[]⟩ := by
      obtain ⟨⟨l⟩⟩ := s
      have : l = [] := List.eq_nil_of_length_eq_zero hz
      rw [this]
    subst hr
    go_enter Tryz.func66, Tryz.ntmps66
    go_wp2
    go_ret
    exact ⟨rfl, Below.refl _ _⟩
  · have e0 : s.toList.isEmpty = false := by rw [empty_beq]; simp [hz]
    have e1 : (s.toList == []) = false := by
      cases h : s.toList with
      | nil => rw [h] at e0; cases e0
      | cons a b => rfl
    by_cases h16 : s.size ≤ 16
    · have d1 : decide ((s.size : Int) ≤ 16) = true := by simp; omega
      have d2 : decide (s.size ≤ 16) = true := by simp; omega
      have HN := Lib.hid (show namedS s = (Lib.trimS s.data.toList lettersL).isEmpty by simp [namedS, hz, h16])
      clear hz h16
      go_enter Tryz.func66, Tryz.ntmps66
      go_wp2_with fail
      refine (Any.strings_Trim_laid Tryz.lays160 (by kernel_rfl) s ⟨lettersL.toArray⟩ _ (by omega) (by decide) (ascii_of_all (by decide))).mono ?_
      rintro e w1 ⟨rfl, hb1⟩
      have hT : lettersL.toArray.toList = lettersL := rfl
      rw [hT]
      generalize Lib.trimS s.data.toList lettersL = tr at *
      clear hT
      go_wp2
      go_ret
      exact ⟨by rw [HN.out]; rfl, hb1⟩
    · have d1 : decide ((s.size : Int) ≤ 16) = false := by simp; omega
      have d2 : decide (s.size ≤ 16) = false := by simp; omega
      have HN := Lib.hid (show namedS s = false by simp [namedS, h16])
      clear hz h16
      go_enter Tryz.func66, Tryz.ntmps66
      go_wp2
      go_ret
      exact ⟨by rw [HN.out]; rfl, Below.refl _ _⟩

theorem twice_calls (y : Seg) (tx : ByteArray) (b : Nat) (w : World) (hc : w.cell? ⟨b, 1, none⟩ = some (.string tx)) :
    Calls Tryz.prog 67 (#[.agg #[.int .i64 y.kind, .string y.text]] ++ #[.pointer (some ⟨b, 0, none⟩)]) w fun e w' => e = .returned (.bool (decide (y.kind ≠ 0) && decide (y.text = tx))) ∧ Below w.heap.size w w' := by
  have hbl := World.block_lt_of_cell? w _ hc
  simp only at hbl
  by_cases hk : y.kind = 0
  · have h1 : (y.kind != 0) = false := by simp [hk]
    have HR := Lib.hid (show (decide (y.kind ≠ 0) && decide (y.text = tx)) = false by simp [hk])
    clear hk
    go_enter Tryz.func67, Tryz.ntmps67
    go_wp2
    repeat (go_quiet (fail); try go_wp2)
    go_ret
    exact ⟨by rw [HR.out]; rfl, by (repeat (first | assumption | exact Below.refl _ _ | apply Below.drew | apply below_drewN | refine below_alloc ?_ (Nat.le_refl _) _ | refine below_then ?_ (Nat.le_refl _) (by assumption)))⟩
  · have h1 : (y.kind != 0) = true := by simp [hk]
    by_cases ht : y.text = tx
    · have h2 : (y.text.toList == tx.toList) = true := by rw [ht]; simp
      have HR := Lib.hid (show (decide (y.kind ≠ 0) && decide (y.text = tx)) = true by simp [hk, ht])
      clear hk ht
      go_enter Tryz.func67, Tryz.ntmps67
      go_wp2
      repeat (go_quiet (fail); try go_wp2)
      go_ret
      exact ⟨by rw [HR.out]; rfl, by (repeat (first | assumption | exact Below.refl _ _ | apply Below.drew | apply below_drewN | refine below_alloc ?_ (Nat.le_refl _) _ | refine below_then ?_ (Nat.le_refl _) (by assumption)))⟩
    · have h2 : (y.text.toList == tx.toList) = false := by rw [beq_list]; simp [ht]
      have HR := Lib.hid (show (decide (y.kind ≠ 0) && decide (y.text = tx)) = false by simp [ht])
      clear hk ht
      go_enter Tryz.func67, Tryz.ntmps67
      go_wp2
      repeat (go_quiet (fail); try go_wp2)
      go_ret
      exact ⟨by rw [HR.out]; rfl, by (repeat (first | assumption | exact Below.refl _ _ | apply Below.drew | apply below_drewN | refine below_alloc ?_ (Nat.le_refl _) _ | refine below_then ?_ (Nat.le_refl _) (by assumption)))⟩

/-- May a pattern be? -/
def patGo (pre : List Seg) : List Seg → Bool
  | [] => true
  | x :: xs => namedS x.text && decide (0 ≤ x.kind) && decide (x.kind ≤ 3) && (decide (x.kind < 2) || xs.isEmpty) &&
      (decide (x.kind = 0) || !(pre.any (fun y => decide (y.kind ≠ 0) && decide (y.text = x.text)))) && patGo (pre ++ [x]) xs
def patR (l : List Seg) : Bool := decide (l.length ≤ 8) && patGo [] l

theorem patRight_calls (l : List Seg) (v : Value) (B : Nat → Prop) (w : World) (hl : Sl eSeg w B v l) :
    Calls Tryz.prog 49 #[v] w fun e w' => e = .returned (.bool (patR l)) ∧ Below w.heap.size w w' := by
  obtain ⟨A, cap, rfl, hcap, hmax, -⟩ := hl.form
  unfold maxLen at hmax
  have he67 : ∀ args w, (callFunc 67 args).run Tryz.prog w = .ok (.enter 67 args) w := enters_of Tryz.func67 (by kernel_rfl) rfl
  have hmf : ∀ (fn : Fn) (first cap : Array Value) (w : World), (Instr.makeFunc fn first cap).run Tryz.prog w = .ok (.func fn first cap) w := fun _ _ _ _ => rfl
  by_cases h8 : l.length ≤ 8
  · have d1 : decide (8 < (l.length : Int)) = false := by simp; omega
    have d2 : decide (8 < l.length) = false := by simp; omega
    have HP := Lib.hid (show patR l = patGo [] l by simp [patR, h8])
    have HE67 := Lib.hid he67
    clear he67
    go_enter Tryz.func49, Tryz.ntmps49
    go_wp2
    go_loopw [12] (fun i wr => ∃ k : Nat, k ≤ l.length ∧ i = .int .i64 k ∧ Below w.heap.size w wr ∧ Hid (patGo (l.take k) (l.drop k) = patR l)) (fun i _ => l.length - (intOf i).toNat)
    case atStart => exact ⟨0, by omega, rfl, Below.refl _ _, Lib.hid (by rw [HP.out]; rfl)⟩
    case round =>
      obtain ⟨k, hk, rfl, hB, hS⟩ := hrel
      by_cases hlt : k < l.length
      · obtain ⟨b, off, rfl, -, -, c, d, hm⟩ := hl.seg_at k hlt
        replace c := below_cell hB c
        replace d := below_cell hB d
        have hS' := hS.out
        rw [List.drop_eq_getElem_cons hlt, patGo, ← List.take_succ_eq_append_getElem hlt] at hS'
        have htk : Hid (∀ o, Sl eSeg (wr.alloc o) B (.slice (some ⟨b, off, none⟩) k cap) (l.take k)) := fun o => (hl.take_ k hk).below (below_alloc hB (Nat.le_refl _) o)
        have hem : (l.drop (k + 1)).isEmpty = decide ((k : Int) = (l.length : Int) - 1) := by
          rw [Bool.eq_iff_iff]
          simp
          omega
        rw [hem] at hS'
        generalize l[k] = x at *
        obtain ⟨kx, tx⟩ := x
        simp only at c d hm hS'
        have hal : Below w.heap.size w (wr.alloc (.cells #[.int .i64 kx, .string tx] 59)) := below_alloc hB (Nat.le_refl _) _
        clear hem hS
        go_wp2_with fail
        refine (named_calls tx _ hm).mono ?_
        rintro e w1 ⟨rfl, hb1⟩
        have hbx : Blk w1 wr.heap.size [.int .i64 kx, .string tx] 59 := (Blk.new wr _ _).below hb1 (by simp)
        have hB1 := below_then hal (Nat.le_refl _) hb1
        have htk1 : Hid (Sl eSeg w1 B (.slice (some ⟨b, off, none⟩) k cap) (l.take k)) := (htk.out _).below hb1
        have e0 := hbx.cell 0
        have e1 := hbx.cell 1
        simp only [List.getElem?_cons_zero, List.getElem?_cons_succ] at e0 e1
        generalize namedS tx = nb at *
        clear hb1 htk c d hal
        cases nb with
        | false =>
          have HF := Lib.hid (show false = patR l by rw [← hS']; rfl)
          clear hS'
          go_wp2
          repeat (go_quiet (fail); try go_wp2)
          go_ret
          exact ⟨by rw [← HF.out]; rfl, by (repeat (first | assumption | exact Below.refl _ _ | apply Below.drew | apply below_drewN | refine below_alloc ?_ (Nat.le_refl _) _ | refine below_then ?_ (Nat.le_refl _) (by assumption)))⟩
        | true =>
          by_cases k0 : kx < 0
          · have q0 : decide (kx < 0) = true := decide_eq_true k0
            have HF := Lib.hid (show false = patR l by rw [← hS', decide_eq_false (show ¬ 0 ≤ kx by omega)]; rfl)
            clear hS'
            go_wp2
            repeat (go_quiet (fail); try go_wp2)
            go_ret
            exact ⟨by rw [← HF.out]; rfl, by (repeat (first | assumption | exact Below.refl _ _ | apply Below.drew | apply below_drewN | refine below_alloc ?_ (Nat.le_refl _) _ | refine below_then ?_ (Nat.le_refl _) (by assumption)))⟩
          · have q0 : decide (kx < 0) = false := decide_eq_false k0
            by_cases k3 : kx ≤ 3
            · have q3 : decide (3 < kx) = false := decide_eq_false (by omega)
              rw [decide_eq_true (show 0 ≤ kx by omega), decide_eq_true k3] at hS'
              simp only [Bool.true_and] at hS'
              have hlq : ((k : Int) == (l.length : Int) - 1) = decide ((k : Int) = (l.length : Int) - 1) := by rw [Bool.eq_iff_iff]; simp
              rw [← hlq] at hS'
              generalize hlv : ((k : Int) == (l.length : Int) - 1) = lv at hS'
              clear hlq
              by_cases k2 : kx < 2
              · have q2 : decide (2 ≤ kx) = false := decide_eq_false (by omega)
                have hS2 := hS'
                rw [decide_eq_true k2] at hS2
                simp only [Bool.true_or, Bool.true_and] at hS2
                clear hS'
                by_cases hz0 : kx = 0
                · have q4 : (kx != 0) = false := by simp [hz0]
                  rw [decide_eq_true hz0] at hS2
                  simp only [Bool.true_or, Bool.true_and] at hS2
                  have HS := Lib.hid hS2
                  clear hS2 hz0
                  go_wp2
                  repeat (go_quiet (fail); try go_wp2)
                  go_roundw
                  case rel => exact ⟨k + 1, by omega, by go_num, by (repeat (first | assumption | exact Below.refl _ _ | apply Below.drew | apply below_drewN | refine below_alloc ?_ (Nat.le_refl _) _ | refine below_then ?_ (Nat.le_refl _) (by assumption))), HS⟩
                  case measure => simp [intOf]; omega
                · have q4 : (kx != 0) = true := by simp [hz0]
                  rw [decide_eq_false hz0] at hS2
                  simp only [Bool.false_or] at hS2
                  have HS2 := Lib.hid hS2
                  clear hS2 hz0
                  have hcl : Hid (∀ x ∈ l.take k, ∀ wx, Below w1.heap.size w1 wx → Calls Tryz.prog 67 (#[.agg #[.int .i64 x.kind, .string x.text]] ++ #[.pointer (some ⟨wr.heap.size, 0, none⟩)]) wx fun e w' => e = .returned (.bool (decide (x.kind ≠ 0) && decide (x.text = tx))) ∧ Below wx.heap.size wx w') :=
                    fun x _ wx hwx => twice_calls x tx wr.heap.size wx (by rw [hwx.cell (p := ⟨wr.heap.size, 1, none⟩) hbx.lt]; exact e1)
                  go_wp2_with fail
                  refine (containsSeg_calls (l.take k) _ B _ _ _ (fun y => decide (y.kind ≠ 0) && decide (y.text = tx)) HE67.out htk1.out hcl).mono ?_
                  rintro e w2 ⟨rfl, hb2⟩
                  have hS3 := HS2.out
                  generalize (l.take k).any (fun y => decide (y.kind ≠ 0) && decide (y.text = tx)) = av at hS3 ⊢
                  clear hcl HS2
                  have hB2 := below_then hB1 (Nat.le_refl _) hb2
                  cases av with
                  | true =>
                    have HF := Lib.hid (show false = patR l by rw [← hS3]; rfl)
                    clear hS3
                    go_wp2
                    go_ret
                    exact ⟨by rw [← HF.out]; rfl, hB2⟩
                  | false =>
                    simp only [Bool.not_false, Bool.true_and] at hS3
                    have HS := Lib.hid hS3
                    clear hS3
                    go_wp2
                    go_roundw
                    case rel => exact ⟨k + 1, by omega, by go_num, hB2, HS⟩
                    case measure => simp [intOf]; omega
              · have q2 : decide (2 ≤ kx) = true := decide_eq_true (by omega)
                cases lv with
                | false =>
                  rw [decide_eq_false k2] at hS'
                  have HF := Lib.hid (show false = patR l by rw [← hS']; simp)
                  clear hS'
                  go_wp2
                  repeat (go_quiet (fail); try go_wp2)
                  go_ret
                  exact ⟨by rw [← HF.out]; rfl, by (repeat (first | assumption | exact Below.refl _ _ | apply Below.drew | apply below_drewN | refine below_alloc ?_ (Nat.le_refl _) _ | refine below_then ?_ (Nat.le_refl _) (by assumption)))⟩
                | true =>
                  have hS2 := hS'
                  simp only [Bool.or_true, Bool.true_and] at hS2
                  clear hS'
                  by_cases hz0 : kx = 0
                  · have q4 : (kx != 0) = false := by simp [hz0]
                    rw [decide_eq_true hz0] at hS2
                    simp only [Bool.true_or, Bool.true_and] at hS2
                    have HS := Lib.hid hS2
                    clear hS2 hz0
                    go_wp2
                    repeat (go_quiet (fail); try go_wp2)
                    go_roundw
                    case rel => exact ⟨k + 1, by omega, by go_num, by (repeat (first | assumption | exact Below.refl _ _ | apply Below.drew | apply below_drewN | refine below_alloc ?_ (Nat.le_refl _) _ | refine below_then ?_ (Nat.le_refl _) (by assumption))), HS⟩
                    case measure => simp [intOf]; omega
                  · have q4 : (kx != 0) = true := by simp [hz0]
                    rw [decide_eq_false hz0] at hS2
                    simp only [Bool.false_or] at hS2
                    have HS2 := Lib.hid hS2
                    clear hS2 hz0
                    have hcl : Hid (∀ x ∈ l.take k, ∀ wx, Below w1.heap.size w1 wx → Calls Tryz.prog 67 (#[.agg #[.int .i64 x.kind, .string x.text]] ++ #[.pointer (some ⟨wr.heap.size, 0, none⟩)]) wx fun e w' => e = .returned (.bool (decide (x.kind ≠ 0) && decide (x.text = tx))) ∧ Below wx.heap.size wx w') :=
                      fun x _ wx hwx => twice_calls x tx wr.heap.size wx (by rw [hwx.cell (p := ⟨wr.heap.size, 1, none⟩) hbx.lt]; exact e1)
                    go_wp2_with fail
                    refine (containsSeg_calls (l.take k) _ B _ _ _ (fun y => decide (y.kind ≠ 0) && decide (y.text = tx)) HE67.out htk1.out hcl).mono ?_
                    rintro e w2 ⟨rfl, hb2⟩
                    have hS3 := HS2.out
                    generalize (l.take k).any (fun y => decide (y.kind ≠ 0) && decide (y.text = tx)) = av at hS3 ⊢
                    clear hcl HS2
                    have hB2 := below_then hB1 (Nat.le_refl _) hb2
                    cases av with
                    | true =>
                      have HF := Lib.hid (show false = patR l by rw [← hS3]; rfl)
                      clear hS3
                      go_wp2
                      go_ret
                      exact ⟨by rw [← HF.out]; rfl, hB2⟩
                    | false =>
                      simp only [Bool.not_false, Bool.true_and] at hS3
                      have HS := Lib.hid hS3
                      clear hS3
                      go_wp2
                      go_roundw
                      case rel => exact ⟨k + 1, by omega, by go_num, hB2, HS⟩
                      case measure => simp [intOf]; omega
            · have q3 : decide (3 < kx) = true := decide_eq_true (by omega)
              have HF := Lib.hid (show false = patR l by rw [← hS', decide_eq_false k3]; simp)
              clear hS'
              go_wp2
              repeat (go_quiet (fail); try go_wp2)
              go_ret
              exact ⟨by rw [← HF.out]; rfl, by (repeat (first | assumption | exact Below.refl _ _ | apply Below.drew | apply below_drewN | refine below_alloc ?_ (Nat.le_refl _) _ | refine below_then ?_ (Nat.le_refl _) (by assumption)))⟩
      · have hS' := hS.out
        rw [List.drop_eq_nil_of_le (by omega), patGo] at hS'
        have HS := Lib.hid hS'
        clear hS hS'
        go_wp2
        go_ret
        exact ⟨by rw [← HS.out]; rfl, hB⟩
  · have d1 : decide (8 < (l.length : Int)) = true := by simp; omega
    have d2 : decide (8 < l.length) = true := by simp; omega
    have HP := Lib.hid (show patR l = false by simp [patR, h8])
    clear he67 hmf
    go_enter Tryz.func49, Tryz.ntmps49
    go_wp2
    go_ret
    exact ⟨by rw [HP.out]; rfl, Below.refl _ _⟩
end Go.Proofs.YtejbkjndipineaaGreatDoor
