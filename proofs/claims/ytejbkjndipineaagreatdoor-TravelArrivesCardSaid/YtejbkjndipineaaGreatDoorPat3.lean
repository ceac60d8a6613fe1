/- Walks of pattern.path. -/
import Derived.Test.YtejbkjndipineaaGreatDoorPat2
namespace Go.Proofs.YtejbkjndipineaaGreatDoor
open Go Go.RowKit PR
set_option linter.unusedVariables false
set_option linter.unusedSimpArgs false
set_option maxHeartbeats 400000
set_option maxRecDepth 100000

theorem getS_size (n : Nat) (l : List Pair) (name : ByteArray) (h : ∀ p ∈ l, p.value.size ≤ n) : (getS l name).1.size ≤ n := by
  unfold getS
  split
  · next p hp => exact h p (List.mem_of_find?_eq_some hp)
  · exact Nat.zero_le _
theorem decAll_len : ∀ (xs acc : List ByteArray), acc.length ≤ 8 → (decAll acc xs).1.length ≤ 8
  | [], acc, h => h
  | x :: xs, acc, h => by
    unfold decAll
    split
    · simp
    · next hn => exact decAll_len xs _ (by simp; omega)
theorem unrestS_len (s : ByteArray) : (unrestS s).1.length ≤ 8 := by
  unfold unrestS
  split
  · simp
  · exact decAll_len _ _ (by simp)
theorem PR.Sl.plainStr {w : World} {B I : Nat → Prop} {v : Value} {xs : List ByteArray} (h : Sl eStr w B v xs) : SlP 1 w (fun _ => True) v xs.length (fun i h cs => eStr.R w I xs[i] cs) :=
  SlP.move (fun b _ _ => ⟨trivial, rfl⟩) (fun i hi cs hr => hr) h

/-- The path of a pattern as parameters say. -/
def pathG (params : List Pair) (acc : List ByteArray) : List Seg → List ByteArray × Bool
  | [] => (acc, true)
  | x :: xs =>
    if x.kind = 0 then pathG params (acc ++ [x.text]) xs
    else if x.kind = 1 then (if (getS params x.text).2 = true then pathG params (acc ++ [(getS params x.text).1]) xs else ([], false))
    else if x.kind = 2 then (if (getS params x.text).2 = true then pathG params (acc ++ [(getS params x.text).1]) xs else pathG params acc xs)
    else (if (getS params x.text).2 = true ∧ (unrestS (getS params x.text).1).2 = true then pathG params (acc ++ (unrestS (getS params x.text).1).1) xs else ([], false))

theorem patPath_calls (l : List Seg) (params : List Pair) (v q : Value) (B : Nat → Prop) (w : World) (hl : Sl eSeg w B v l) (hq : Sl ePairS w B q params) (h8 : l.length ≤ 8) (hps : ∀ p ∈ params, p.value.size ≤ 16777216) (hg : GV w) :
    Calls Tryz.prog 58 #[v, q] w fun e w' => ∃ r, e = .returned (.tuple #[r, .bool (pathG params [] l).2]) ∧ Sl eStr w' (fun b => w.heap.size ≤ b) r (pathG params [] l).1 ∧ Below w.heap.size w w' := by
  obtain ⟨A, cap, rfl, hcap, hmax, -⟩ := hl.form
  unfold maxLen at hmax
  have HG := Lib.hid hg
  have HPS := Lib.hid hps
  clear hps hg
  obtain ⟨Aq, capq, rfl, -, -, -⟩ := hq.form
  go_enter Tryz.func58, Tryz.ntmps58
  go_wp2
  go_loopw [6, 15] (fun v i wr => ∃ (k : Nat) (acc : List ByteArray), i = .int .i64 k ∧ k ≤ l.length ∧ acc.length ≤ 8 * k ∧ Ow eStr 9 wr (fun _ => False) v acc ∧ (∀ g, v.ownBlock = some g → w.heap.size ≤ g) ∧ Below w.heap.size w wr ∧ Hid (pathG params acc (l.drop k) = pathG params [] l)) (fun _ i _ => l.length - (intOf i).toNat)
  case atStart => exact ⟨0, [], rfl, by omega, by simp, Ow.nil _ _ _ _, by simp [Value.ownBlock], Below.refl _ _, Lib.hid rfl⟩
  case round =>
    obtain ⟨k, acc, rfl, hk, hac, hown, hgb, hB, hD⟩ := hrel
    by_cases hlt : k < l.length
    · obtain ⟨b, off, rfl, -, -, c, d, hm⟩ := hl.seg_at k hlt
      replace c := below_cell hB c
      replace d := below_cell hB d
      have hD' := hD.out
      rw [List.drop_eq_getElem_cons hlt, pathG] at hD'
      generalize l[k] = x at *
      obtain ⟨kx, tx⟩ := x
      simp only at c d hm hD'
      clear hD
      obtain ⟨A0, cap0, rfl, hc0, hm0⟩ := hown.form
      unfold maxLen at hm0
      have hal : Below w.heap.size w (wr.alloc (.cells #[.int .i64 kx, .string tx] 59)) := below_alloc hB (Nat.le_refl _) _
      have hownA := (hown.below (below_alloc (Below.refl _ _) (Nat.le_refl _) (.cells #[.int .i64 kx, .string tx] 59))).plain (fun _ c => c.1)
      obtain ⟨wo, rfl⟩ : ∃ wo : World, wo = wr := ⟨_, rfl⟩
      go_wp2_with fail
      refine (value_calls params _ tx B _ (hq.below hal)).mono ?_
      rintro e w1 ⟨rfl, hb1⟩
      have hbx : Blk w1 wo.heap.size [.int .i64 kx, .string tx] 59 := (Blk.new wo _ _).below hb1 (by simp)
      have hB1 := below_then hal (Nat.le_refl _) hb1
      have hown1 := (hownA.below hb1).plain (fun _ c => c.1)
      have e0 := hbx.cell 0
      have e1 := hbx.cell 1
      simp only [List.getElem?_cons_zero, List.getElem?_cons_succ] at e0 e1
      have hgs := getS_size 16777216 params tx HPS.out
      generalize getS params tx = g at hD' hgs ⊢
      obtain ⟨gv, gk⟩ := g
      simp only at hD' hgs ⊢
      have hz1 := hB1.size
      clear hb1 c d hal hown hownA
      by_cases k0 : kx = 0
      · subst k0
        rw [if_pos rfl] at hD'
        have HD := Lib.hid hD'
        clear hD'
        unfold maxLen at hm
        go_wp2_with (at_builtin; refine wp_app eStr rfl (.tmp 44) (.tmp 47) 29 9 rfl Tryz.underlying29 (.string ⟨#[]⟩) 16 infoStr rfl (by decide) (fun _ => False) _ acc rfl ?own _ [tx] rfl ?src ?c3 ?c4 ?_)
        case own => exact (hown1.below (below_alloc (Below.refl _ _) (Nat.le_refl _) _)).plain (fun _ c => c.1)
        case src => exact one_new eStr w1 (fun _ => False) tx _ 9 ⟨rfl, by unfold maxLen; omega⟩ (fun b c => False.elim c)
        case c3 => unfold maxLen; show acc.length + 1 ≤ _; omega
        case c4 => show (acc.length + 1) * 16 ≤ _; omega
        intro v' w' hown' hg' hv'
        have hgb' := app_own (B := w.heap.size) (w2 := w1) (o := .cells #[.string tx] 9) (by simpa using hv') hgb (by omega)
        have hBn := app_below hB1 (Nat.le_refl _) hg' hgb
        clear hown1 hv' hg' hbx e0 e1
        go_wp2
        go_roundw
        case rel => exact ⟨k + 1, acc ++ [tx], by go_num, by omega, by simp; omega, hown', hgb', hBn, HD⟩
        case measure => simp [intOf]; omega
      · rw [if_neg k0] at hD'
        have q0 : (kx == 0) = false := beq_eq_false_iff_ne.2 k0
        clear k0
        by_cases k1 : kx = 1
        · rw [if_pos k1] at hD'
          have q1 : (kx == 1) = true := by rw [k1]; rfl
          clear k1
          cases gk with
          | false =>
            have HD := Lib.hid (show ([], false) = pathG params [] l by rw [← hD']; rfl)
            clear hD'
            go_wp2
            go_ret2
            exact ⟨_, by rw [← HD.out]; rfl, by rw [← HD.out]; exact Sl.nil _ _ _, hB1⟩
          | true =>
            rw [if_pos rfl] at hD'
            have HD := Lib.hid hD'
            clear hD'
            go_wp2_with (at_builtin; refine wp_app eStr rfl (.tmp 53) (.tmp 55) 29 9 rfl Tryz.underlying29 (.string ⟨#[]⟩) 16 infoStr rfl (by decide) (fun _ => False) _ acc rfl ?own _ [gv] rfl ?src ?c3 ?c4 ?_)
            case own => exact (hown1.below (below_alloc (Below.refl _ _) (Nat.le_refl _) _)).plain (fun _ c => c.1)
            case src => exact one_new eStr w1 (fun _ => False) gv _ 9 ⟨rfl, by unfold maxLen; omega⟩ (fun b c => False.elim c)
            case c3 => unfold maxLen; show acc.length + 1 ≤ _; omega
            case c4 => show (acc.length + 1) * 16 ≤ _; omega
            intro v' w' hown' hg' hv'
            have hgb' := app_own (B := w.heap.size) (w2 := w1) (o := .cells #[.string gv] 9) (by simpa using hv') hgb (by omega)
            have hBn := app_below hB1 (Nat.le_refl _) hg' hgb
            clear hown1 hv' hg' hbx e0 e1
            go_wp2
            go_roundw
            case rel => exact ⟨k + 1, acc ++ [gv], by go_num, by omega, by simp; omega, hown', hgb', hBn, HD⟩
            case measure => simp [intOf]; omega
        · rw [if_neg k1] at hD'
          have q1 : (kx == 1) = false := beq_eq_false_iff_ne.2 k1
          clear k1
          by_cases k2 : kx = 2
          · rw [if_pos k2] at hD'
            have q2 : (kx == 2) = true := by rw [k2]; rfl
            clear k2
            cases gk with
            | false =>
              have HD := Lib.hid (show pathG params acc (l.drop (k + 1)) = pathG params [] l by rw [← hD']; rfl)
              clear hD'
              go_wp2
              go_roundw
              case rel => exact ⟨k + 1, acc, by go_num, by omega, by omega, hown1, hgb, hB1, HD⟩
              case measure => simp [intOf]; omega
            | true =>
              rw [if_pos rfl] at hD'
              have HD := Lib.hid hD'
              clear hD'
              go_wp2_with (at_builtin; refine wp_app eStr rfl (.tmp 60) (.tmp 62) 29 9 rfl Tryz.underlying29 (.string ⟨#[]⟩) 16 infoStr rfl (by decide) (fun _ => False) _ acc rfl ?own _ [gv] rfl ?src ?c3 ?c4 ?_)
              case own => exact (hown1.below (below_alloc (Below.refl _ _) (Nat.le_refl _) _)).plain (fun _ c => c.1)
              case src => exact one_new eStr w1 (fun _ => False) gv _ 9 ⟨rfl, by unfold maxLen; omega⟩ (fun b c => False.elim c)
              case c3 => unfold maxLen; show acc.length + 1 ≤ _; omega
              case c4 => show (acc.length + 1) * 16 ≤ _; omega
              intro v' w' hown' hg' hv'
              have hgb' := app_own (B := w.heap.size) (w2 := w1) (o := .cells #[.string gv] 9) (by simpa using hv') hgb (by omega)
              have hBn := app_below hB1 (Nat.le_refl _) hg' hgb
              clear hown1 hv' hg' hbx e0 e1
              go_wp2
              go_roundw
              case rel => exact ⟨k + 1, acc ++ [gv], by go_num, by omega, by simp; omega, hown', hgb', hBn, HD⟩
              case measure => simp [intOf]; omega
          · rw [if_neg k2] at hD'
            have q2 : (kx == 2) = false := beq_eq_false_iff_ne.2 k2
            clear k2
            go_wp2_with fail
            refine (unrest_calls gv _ hgs (HG.out.below hB1)).mono ?_
            rintro e w2 ⟨tv, rfl, htv, hb2⟩
            have htl := unrestS_len gv
            generalize unrestS gv = ur at htv htl hD' ⊢
            obtain ⟨us, uk⟩ := ur
            simp only at htv htl hD' ⊢
            obtain ⟨At, capt, rfl, -, -, -⟩ := htv.form
            have hown2 := (hown1.below hb2).plain (fun _ c => c.1)
            have hB2 := below_then hB1 (Nat.le_refl _) hb2
            have hz2 := hb2.size
            clear hb2 hown1 hbx e0 e1
            cases gk with
            | false =>
              have HD := Lib.hid (show ([], false) = pathG params [] l by rw [← hD']; simp)
              clear hD'
              go_wp2
              go_ret2
              exact ⟨_, by rw [← HD.out]; rfl, by rw [← HD.out]; exact Sl.nil _ _ _, hB2⟩
            | true =>
              cases uk with
              | false =>
                have HD := Lib.hid (show ([], false) = pathG params [] l by rw [← hD']; simp)
                clear hD'
                go_wp2
                go_ret2
                exact ⟨_, by rw [← HD.out]; rfl, by rw [← HD.out]; exact Sl.nil _ _ _, hB2⟩
              | true =>
                rw [if_pos ⟨rfl, rfl⟩] at hD'
                have HD := Lib.hid hD'
                clear hD'
                go_wp2_with (at_builtin; refine wp_app eStr rfl (.tmp 39) (.tmp 40) 29 9 rfl Tryz.underlying29 (.string ⟨#[]⟩) 16 infoStr rfl (by decide) (fun _ => False) _ acc rfl ?own _ us rfl ?src ?c3 ?c4 ?_)
                case own => exact hown2
                case src => exact Sl.plainStr htv
                case c3 => unfold maxLen; omega
                case c4 => omega
                intro v' w' hown' hg' hv'
                have hgb' : ∀ g, v'.ownBlock = some g → w.heap.size ≤ g := by
                  intro g hg
                  rcases hv' with hv | hv
                  · exact hgb g (hv ▸ hg)
                  · have := hv g hg
                    omega
                have hBn := below_grown hB2 (Nat.le_refl _) hg' hgb
                have hown3 := hown'.plain (fun _ c => c)
                clear hown2 hv' hg' hown'
                intro _
                go_wp2
                go_roundw
                case rel => exact ⟨k + 1, acc ++ us, by go_num, by omega, by simp; omega, hown3, hgb', hBn, HD⟩
                case measure => simp [intOf]; omega
    · have hD' := hD.out
      rw [List.drop_eq_nil_of_le (by omega), pathG] at hD'
      have HD := Lib.hid hD'
      clear hD hD'
      go_wp2
      go_ret2
      exact ⟨_, by rw [← HD.out]; rfl, by rw [← HD.out]; exact hown.sl (fun _ c _ => False.elim c) (fun g hg => by have := hgb g hg; omega), hB⟩
end Go.Proofs.YtejbkjndipineaaGreatDoor
