/- Walk of pattern.Match. -/
import Derived.Test.YtejbkjndipineaaGreatDoorPat3
import Derived.Test.YtejbkjndipineaaGreatDoorOp2
namespace Go.Proofs.YtejbkjndipineaaGreatDoor
open Go Go.RowKit PR
set_option linter.unusedVariables false
set_option linter.unusedSimpArgs false
set_option maxHeartbeats 400000
set_option maxRecDepth 100000

/-- Parameters of a path that a pattern has. -/
def matchG : List ByteArray → List Pair → List Seg → List Pair × Bool
  | ps, out, [] => if ps = [] then (out, true) else ([], false)
  | ps, out, x :: xs =>
    if x.kind = 3 then (out ++ [⟨x.text, restS ps⟩], true)
    else match ps with
      | [] => if x.kind = 2 then (out, true) else ([], false)
      | s :: ps => if x.kind ≠ 0 then matchG ps (out ++ [⟨x.text, s⟩]) xs else if s = x.text then matchG ps out xs else ([], false)
theorem matchG_rest (ps : List ByteArray) (out : List Pair) (x : Seg) (xs : List Seg) (h : x.kind = 3) : matchG ps out (x :: xs) = (out ++ [⟨x.text, restS ps⟩], true) := by rw [matchG.eq_def]; simp only; rw [if_pos h]
theorem matchG_opt (out : List Pair) (x : Seg) (xs : List Seg) (h : x.kind = 2) : matchG [] out (x :: xs) = (out, true) := by rw [matchG.eq_def]; simp [h]
theorem matchG_none (out : List Pair) (x : Seg) (xs : List Seg) (h : x.kind ≠ 3) (h2 : x.kind ≠ 2) : matchG [] out (x :: xs) = ([], false) := by rw [matchG.eq_def]; simp only; rw [if_neg h]; simp [h2]
theorem matchG_par (s : ByteArray) (ps : List ByteArray) (out : List Pair) (x : Seg) (xs : List Seg) (h : x.kind ≠ 3) (h0 : x.kind ≠ 0) : matchG (s :: ps) out (x :: xs) = matchG ps (out ++ [⟨x.text, s⟩]) xs := by rw [matchG.eq_def]; simp only; rw [if_neg h]; simp [h0]
theorem matchG_hit (s : ByteArray) (ps : List ByteArray) (out : List Pair) (x : Seg) (xs : List Seg) (h0 : x.kind = 0) (hs : s = x.text) : matchG (s :: ps) out (x :: xs) = matchG ps out xs := by rw [matchG.eq_def]; simp only; rw [if_neg (by omega)]; simp [h0, hs]
theorem matchG_miss (s : ByteArray) (ps : List ByteArray) (out : List Pair) (x : Seg) (xs : List Seg) (h0 : x.kind = 0) (hs : s ≠ x.text) : matchG (s :: ps) out (x :: xs) = ([], false) := by rw [matchG.eq_def]; simp only; rw [if_neg (by omega)]; simp [h0, hs]
def matchS (l : List Seg) (ps : List ByteArray) : List Pair × Bool := if patR l then matchG ps [] l else ([], false)

theorem restS_size (xs : List ByteArray) (h8 : xs.length ≤ 4096) (hs : ∀ x ∈ xs, x.size ≤ 16777216) : (restS xs).size ≤ maxLen := by
  have := join_len [47] (3 * 16777216) (xs.map (fun x => encL x.data.toList)) (fun y hy => by
    obtain ⟨x, hx, rfl⟩ := List.mem_map.1 hy
    have h1 := encS_size x
    have h2 := hs x hx
    have h3 : (encL x.data.toList).length = (encS x).size := rfl
    omega)
  rw [List.length_map, show ([47] : List UInt8).length = 1 from rfl] at this
  have h4 := Nat.mul_le_mul h8 (Nat.le_refl (3 * 16777216 + 1))
  unfold maxLen
  show (Lib.join _ _).length ≤ _
  omega

set_option maxHeartbeats 4000000 in
theorem match_calls (l : List Seg) (ps : List ByteArray) (v q : Value) (B : Nat → Prop) (w : World) (hl : Sl eSeg w B v l) (hq : Sl eStr w B q ps) (hp8 : ps.length ≤ 4096) (hps : ∀ p ∈ ps, p.size ≤ 16777216) :
    Calls Tryz.prog 55 #[v, q] w fun e w' => ∃ r, e = .returned (.tuple #[r, .bool (matchS l ps).2]) ∧ Sl ePairS w' (fun b => w.heap.size ≤ b) r (matchS l ps).1 ∧ Below w.heap.size w w' := by
  have HPS := Lib.hid (⟨hp8, hps⟩ : ps.length ≤ 4096 ∧ ∀ p ∈ ps, p.size ≤ 16777216)
  have HR8 : Hid (patR l = true → l.length ≤ 8) := Lib.hid (fun h => by simp [patR] at h; exact h.1)
  clear hps hp8
  obtain ⟨A, cap, rfl, hcap, hmax, -⟩ := hl.form
  unfold maxLen at hmax
  obtain ⟨Aq, capq, rfl, -, -, -⟩ := hq.form
  go_enter Tryz.func55, Tryz.ntmps55
  go_wp2_with fail
  refine (patRight_calls l _ B _ hl).mono ?_
  rintro e w1 ⟨rfl, hb1⟩
  cases hr : patR l with
  | false =>
    have HM := Lib.hid (show matchS l ps = ([], false) by unfold matchS; rw [hr]; rfl)
    clear hr
    go_wp2
    go_ret2
    exact ⟨_, by rw [HM.out]; rfl, by rw [HM.out]; exact Sl.nil _ _ _, hb1⟩
  | true =>
    have HM := Lib.hid (show matchS l ps = matchG ps [] l by unfold matchS; rw [hr]; rfl)
    have h8 := HR8.out hr
    clear hr HR8
    have hl1 := hl.below hb1
    have hq1 := hq.below hb1
    clear hl hq
    go_wp2
    go_loopw [1, 6, 15] (fun pv v i wr => ∃ (k : Nat) (acc : List Pair) (qs : List ByteArray), i = .int .i64 k ∧ k ≤ l.length ∧ acc.length ≤ k ∧ Ow ePairS 52 wr (fun _ => False) v acc ∧ (∀ g, v.ownBlock = some g → w1.heap.size ≤ g) ∧ Below w.heap.size w wr ∧ Below w1.heap.size w1 wr ∧ Sl eStr w1 B pv qs ∧ Hid (qs.length ≤ 4096 ∧ ∀ p ∈ qs, p.size ≤ 16777216) ∧ Hid (matchG qs acc (l.drop k) = matchS l ps)) (fun _ _ i _ => l.length - (intOf i).toNat)
    case atStart => exact ⟨0, [], ps, rfl, by omega, by simp, Ow.nil _ _ _ _, by simp [Value.ownBlock], hb1, Below.refl _ _, hq1, HPS, Lib.hid (by rw [HM.out]; rfl)⟩
    case round =>
      clear hq1
      obtain ⟨k, acc, qs, rfl, hk, hac, hown, hgb, hB, hB1, hqs, HQ, hD⟩ := hrel
      obtain ⟨Aq, capq, rfl, hcq, hmq, -⟩ := hqs.form
      unfold maxLen at hmq
      by_cases hlt : k < l.length
      · obtain ⟨b, off, rfl, -, -, c, d, hm⟩ := hl1.seg_at k hlt
        replace c := below_cell hB1 c
        replace d := below_cell hB1 d
        have hD' := hD.out
        rw [List.drop_eq_getElem_cons hlt] at hD'
        generalize l[k] = x at *
        obtain ⟨kx, tx⟩ := x
        simp only at c d hm
        clear hD
        obtain ⟨A0, cap0, rfl, hc0, hm0⟩ := hown.form
        unfold maxLen at hm0
        obtain ⟨wo, rfl⟩ : ∃ wo : World, wo = wr := ⟨_, rfl⟩
        have hal : Below w.heap.size w (wo.alloc (.cells #[.int .i64 kx, .string tx] 59)) := below_alloc hB (Nat.le_refl _) _
        have hal1 : Below w1.heap.size w1 (wo.alloc (.cells #[.int .i64 kx, .string tx] 59)) := below_alloc hB1 (Nat.le_refl _) _
        have hownA := (hown.below (below_alloc (Below.refl _ _) (Nat.le_refl _) (.cells #[.int .i64 kx, .string tx] 59))).plain (fun _ c => c.1)
        have hbx : Blk (wo.alloc (.cells #[.int .i64 kx, .string tx] 59)) wo.heap.size [.int .i64 kx, .string tx] 59 := Blk.new wo _ _
        have hqA := hqs.below hal1
        have hzo := hB.size
        rcases Decidable.em (kx ≠ 3) with k3 | k3
        · have q3 : (kx == 3) = false := beq_eq_false_iff_ne.2 k3
          match qs, hD', HQ, hqs, hqA with
          | [], hD', HQ, hqs, hqA =>
            by_cases k2 : kx = 2
            · have q2 : (kx == 2) = true := by rw [k2]; rfl
              have hD2 : (acc, true) = matchS l ps := by rw [← hD', matchG_opt _ _ _ k2]
              have HD := Lib.hid hD2
              clear hD' hD2 k2 k3
              go_wp2
              go_ret2
              exact ⟨_, by rw [← HD.out]; rfl, by rw [← HD.out]; exact hownA.sl (fun _ c _ => False.elim c) (fun g hg => by have := hgb g hg; have := hb1.size; omega), hal⟩
            · have q2 : (kx == 2) = false := beq_eq_false_iff_ne.2 k2
              have hD2 : ([], false) = matchS l ps := by rw [← hD', matchG_none _ _ _ k3 k2]
              have HD := Lib.hid hD2
              clear hD' hD2 k2 k3
              go_wp2
              go_ret2
              exact ⟨_, by rw [← HD.out]; rfl, by rw [← HD.out]; exact Sl.nil _ _ _, hal⟩
          | s :: qs, hD', HQ, hqs, hqA =>
            have hdr := Sl.tail_ hqs
            have hdr0 : ∀ A', capq = 1 → Sl eStr w1 B (.slice A' ((s :: qs).length - 1) (capq - 1)) qs := fun A' e => by subst e; exact Sl.tail0 hqs A'
            have hmq' : (s :: qs).length ≤ capq := hcq
            obtain ⟨bq, oq, rfl, -, -, cq, hsm⟩ := hqA.str_at 0 (by simp)
            have HQ' : Hid (qs.length ≤ 4096 ∧ ∀ p ∈ qs, p.size ≤ 16777216) := Lib.hid ⟨by have := HQ.out.1; simp at this; omega, fun p hp => HQ.out.2 p (by simp [hp])⟩
            clear HQ hcq hqA hqs
            simp only [List.getElem_cons_zero] at cq hsm
            have hlq1 : 1 ≤ (s :: qs).length := by simp
            generalize (s :: qs).length = nq at *
            have hlq : ((nq : Int) == 0) = false := by simp; omega
            simp only [Nat.add_zero] at cq
            have hdr' := hdr bq oq rfl
            clear hdr
            have hdr00 : ∀ A', capq = 1 → Sl eStr w1 B (.slice A' (nq - 1) 0) qs := fun A' e => by have := hdr0 A' e; rw [e] at this; exact this
            have hdr2 : Sl eStr w1 B (.slice (if capq = 1 then some ⟨bq, oq, none⟩ else some ⟨bq, oq + 1, none⟩) (nq - 1) (capq - 1)) qs := by
              split
              · next h => exact hdr0 _ h
              · exact hdr'

            by_cases k0 : kx = 0
            · have q0 : (kx != 0) = false := by rw [k0]; rfl
              by_cases hst : s = tx
              · have qs' : (s.toList == tx.toList) = true := by rw [hst]; simp
                have hD2 : matchG qs acc (l.drop (k + 1)) = matchS l ps := by rw [← hD', matchG_hit _ _ _ _ _ k0 hst]
                have HD := Lib.hid hD2
                clear hD' hD2 k0 k3 hst
                go_wp2
                all_goals go_roundw
                all_goals
                  first
                  | exact ⟨k + 1, acc, qs, by go_num, by omega, by omega, hownA, hgb, hal, hal1, hdr', HQ', HD⟩
                  | exact ⟨k + 1, acc, qs, by go_num, by omega, by omega, hownA, hgb, hal, hal1, hdr2, HQ', HD⟩
                  | (simp [intOf]; omega)
              · have qs' : (s.toList == tx.toList) = false := by rw [beq_list]; simp [hst]
                have hD2 : ([], false) = matchS l ps := by rw [← hD', matchG_miss _ _ _ _ _ k0 hst]
                have HD := Lib.hid hD2
                clear hD' hD2 k0 k3 hst
                go_wp2
                all_goals go_ret2
                all_goals exact ⟨_, by rw [← HD.out]; rfl, by rw [← HD.out]; exact Sl.nil _ _ _, by (repeat (first | assumption | exact Below.refl _ _ | apply Below.drew | apply below_drewN | refine below_alloc ?_ (Nat.le_refl _) _ | refine below_then ?_ (Nat.le_refl _) (by assumption)))⟩
            · have q0 : (kx != 0) = true := bne_iff_ne.2 k0
              have hD2 : matchG qs (acc ++ [⟨tx, s⟩]) (l.drop (k + 1)) = matchS l ps := by rw [← hD', matchG_par _ _ _ _ _ k3 k0]
              have HD := Lib.hid hD2
              have e1 := hbx.cell 1
              simp only [List.getElem?_cons_zero, List.getElem?_cons_succ] at e1
              have hsrc := one_new ePairS (wo.alloc (.cells #[.int .i64 kx, .string tx] 59)) (fun _ => False) ⟨tx, s⟩ _ 52 (ePair_mk _ _ _ hm hsm) (fun b c => False.elim c)
              rw [show (wo.alloc (.cells #[.int .i64 kx, .string tx] 59)).heap.size = wo.heap.size + 1 by simp] at hsrc
              have hsrc2 : SlP ePairS.sz ((wo.alloc (.cells #[.int .i64 kx, .string tx] 59)).alloc (.cells #[.string tx, .string s] 52)) (fun _ => True) (.slice (some ⟨wo.heap.size + 1, 0, none⟩) 1 1) 1 (fun i h cs => ePairS.R ((wo.alloc (.cells #[.int .i64 kx, .string tx] 59)).alloc (.cells #[.string tx, .string s] 52)) (fun _ => False) ⟨tx, s⟩ cs) :=
                SlP.move (n := 1) (fun b _ _ => ⟨trivial, rfl⟩) (fun i hi cs hr => by
                  obtain rfl : i = 0 := by omega
                  exact hr) hsrc
              clear hsrc
              clear hD' hD2 k0 k3
              go_wp2_with (at_builtin; refine wp_app ePairS rfl (.tmp 45) (.tmp 50) 30 52 rfl Tryz.underlying30 (.agg #[.string ⟨#[]⟩, .string ⟨#[]⟩]) 32 infoPair rfl (by decide) (fun _ => False) _ acc rfl ?own _ [⟨tx, s⟩] rfl ?src ?c3 ?c4 ?_)
              all_goals
                first
                | exact (hownA.below (below_alloc (Below.refl _ _) (Nat.le_refl _) _)).plain (fun _ c => c.1)
                | exact hsrc2
                | (unfold maxLen; show acc.length + 1 ≤ _; omega)
                | (show (acc.length + 1) * 32 ≤ _; omega)
                | skip
              all_goals
                intro v' w' hown' hg' hv'
                have hgb' := app_own (B := w1.heap.size) (w2 := wo.alloc (.cells #[.int .i64 kx, .string tx] 59)) (o := .cells #[.string tx, .string s] 52) (by simpa using hv') hgb (by have := hal1.size; exact this)
                have hBn := app_below hal (Nat.le_refl _) hg' (fun g hg => by have := hgb g hg; have := hb1.size; omega)
                have hBn1 := app_below hal1 (Nat.le_refl _) hg' hgb
                clear hv' hg'
                go_wp2
                go_roundw
              all_goals
                first
                | (simp [intOf]; omega; done)
                | exact ⟨k + 1, acc ++ [⟨tx, s⟩], qs, by go_num, by omega, by simp; omega, by first | exact hown' | exact hown'.plain (fun _ c => c.1), hgb', hBn, hBn1, by first | exact hdr' | exact hdr2 | exact hdr00 _ (by assumption), HQ', HD⟩
        · obtain rfl : kx = 3 := by omega
          have hD2 : (acc ++ [⟨tx, restS qs⟩], true) = matchS l ps := by rw [← hD', matchG_rest _ _ _ _ rfl]
          have HD := Lib.hid hD2
          have hrs := restS_size qs HQ.out.1 HQ.out.2
          clear hD' hD2
          have e1 := hbx.cell 1
          simp only [List.getElem?_cons_zero, List.getElem?_cons_succ] at e1
          have HQo := HQ
          go_wp2_with fail
          generalize wo.alloc (.cells #[.int .i64 3, .string tx] 59) = wc at *
          have hnr : ¬ (some wo.heap.size = (Value.slice A0 acc.length cap0).ownBlock) := fun e => by have := hown.lt _ e.symm; omega
          have hownB : Ow ePairS 52 wc.drew (fun _ => False) (.slice A0 acc.length cap0) acc := hownA
          go_region_held3 (fun w' => w'.cell? ⟨wo.heap.size, 1, none⟩ = some (.string tx))
            (first | assumption | exact e1 | exact below_cell hbA (by first | assumption | exact e1) | (refine below_cell (below_alloc (Below.refl _ _) (Nat.le_refl _) _) ?_; first | assumption | exact below_cell hbA (by first | assumption | exact e1)) | (refine (Ch.of_grown hg').cell ?_ hnr; first | assumption | (refine below_cell (below_alloc (Below.refl _ _) (Nat.le_refl _) _) ?_; first | assumption | exact below_cell hbA (by first | assumption | exact e1))) | fail)
            (first
            | (go_at_call 74; refine (rest_calls qs _ B _ (by first | exact hqA | exact hqA) HQo.out.1 HQo.out.2).mono ?_; rintro e wA ⟨rfl, hbA⟩)
            | (rw [if_pos (by rfl)]; refine op_app ePairS (.tmp 22) (.tmp 28) 30 52 rfl Tryz.underlying30 (.agg #[.string ⟨#[]⟩, .string ⟨#[]⟩]) 32 infoPair rfl (by decide) (fun _ => False) _ acc rfl ?_ _ [⟨tx, restS qs⟩] rfl ?_ ?_ ?_ ?_; (focus first | exact ((hownA.below hbA).below (below_alloc (Below.refl _ _) (Nat.le_refl _) _)).plain (fun _ c => c.1.1) | exact ((hownB.below hbA).below (below_alloc (Below.refl _ _) (Nat.le_refl _) _)).plain (fun _ c => c.1.1)); (focus exact one_new ePairS wA (fun _ => False) ⟨tx, restS qs⟩ _ 52 (ePair_mk _ _ _ hm hrs) (fun b c => False.elim c)); (focus unfold maxLen; show acc.length + 1 ≤ _; omega); (focus show (acc.length + 1) * 32 ≤ _; omega); intro v' w' hown' hg' hv'))
          have hB3 : Below w.heap.size w wA := Below.trans (Below.drew hal) (Below.mono hbA (show w.heap.size ≤ wc.heap.size from hal.size))
          have hB31 : Below w1.heap.size w1 wA := Below.trans (Below.drew hal1) (Below.mono hbA (show w1.heap.size ≤ wc.heap.size from hal1.size))
          have hgb' : ∀ g, v'.ownBlock = some g → w.heap.size ≤ g := by
            intro g hg
            rcases hv' with hv | hv
            · have := hgb g (hv ▸ hg)
              have := hb1.size
              omega
            · have := hv g hg
              have := hB3.size
              simp at *
              omega
          have hBn : Below w.heap.size w w' := app_below hB3 (Nat.le_refl _) hg' (fun g hg => by have := hgb g hg; have := hb1.size; omega)
          have hown3 := hown'.plain (fun _ c => c.1)
          clear hown' hg' hv' hB31 e1 hownB
          go_wp2
          go_ret2
          exact ⟨_, by rw [← HD.out]; rfl, by rw [← HD.out]; exact hown3.sl (fun _ c _ => False.elim c) hgb', hBn⟩
      · have hD' := hD.out
        rw [List.drop_eq_nil_of_le (by omega), matchG] at hD'
        by_cases hqz : qs = []
        · subst hqz
          rw [if_pos rfl] at hD'
          have HD := Lib.hid hD'
          clear hD hD'
          go_wp2
          go_ret2
          exact ⟨_, by rw [← HD.out]; rfl, by rw [← HD.out]; exact hown.sl (fun _ c _ => False.elim c) (fun g hg => by have := hgb g hg; have := hb1.size; omega), hB⟩
        · rw [if_neg hqz] at hD'
          have d1 : decide (0 < (qs.length : Int)) = true := by have := List.length_pos_iff.2 hqz; simp; omega
          have d2 : decide (0 < qs.length) = true := by have := List.length_pos_iff.2 hqz; simp; omega
          have HD := Lib.hid hD'
          clear hD hD' hqz
          go_wp2
          go_ret2
          exact ⟨_, by rw [← HD.out]; rfl, by rw [← HD.out]; exact Sl.nil _ _ _, hB⟩
end Go.Proofs.YtejbkjndipineaaGreatDoor
