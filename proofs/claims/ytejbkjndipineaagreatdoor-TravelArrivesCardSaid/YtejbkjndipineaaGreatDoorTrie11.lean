/- Walk of trie.Find. -/
import Derived.Test.YtejbkjndipineaaGreatDoorTrie10
import Derived.Test.YtejbkjndipineaaGreatDoorPat4
import Derived.Deep.RegionHeld3
namespace Go.Proofs.YtejbkjndipineaaGreatDoor
open Go Go.RowKit PR
set_option linter.unusedVariables false
set_option linter.unusedSimpArgs false
set_option maxHeartbeats 400000
set_option maxRecDepth 100000
open Go.Maps

/-- The place of the first pattern, and what the path's parameters are there. -/
def findS (ls : List (List Seg)) (F : List Int) (ps : List ByteArray) : Int × List Pair × Bool :=
  match F with
  | [] => (-1, [], false)
  | i :: _ => (i, matchS (ls[i.toNat]?.getD []) ps)

set_option maxHeartbeats 1000000 in
theorem find_calls (ls : List (List Seg)) (lv : Value) (bt base root mt n : Nat) (w : World) (pats : List (List Seg × Nat)) (ns : List TN) (h : Trie w base root pats ns) (ct : Blk w bt [lv, .map (some mt), .pointer (some ⟨root, 0, none⟩)] 113) (hT : TM w mt n pats)
    (hok : ∀ q ∈ pats, ∀ y ∈ q.1, SegOk y) (hpl : pats.length < 65536) (hlp : ls.length < 65536) (hs : ∀ q ∈ pats, q.2 < ls.length) (v : Value) (Bl B : Nat → Prop) (ps : List ByteArray) (hl : Sl (eSl eSeg) w Bl lv ls) (hps : Sl eStr w B v ps) (hp8 : ps.length ≤ 4096) (hpz : ∀ p ∈ ps, p.size ≤ 16777216) :
    Calls Tryz.prog 35 #[.pointer (some ⟨bt, 0, none⟩), v] w fun e w' => ∃ r, e = .returned (.tuple #[.int .i64 (findS ls (foundAt pats [] ps) ps).1, r, .bool (findS ls (foundAt pats [] ps) ps).2.2]) ∧ Sl ePairS w' (fun b => w.heap.size ≤ b) r (findS ls (foundAt pats [] ps) ps).2.1 ∧ Below w.heap.size w w' := by
  obtain ⟨A, cap, rfl, -, -, -⟩ := hps.form
  obtain ⟨Al, capl, rfl, hcl, hml, -⟩ := hl.form
  unfold maxLen at hml
  have hin : ∀ i ∈ foundAt pats [] ps, 0 ≤ i ∧ i.toNat < ls.length := by
    intro i hi
    unfold foundAt at hi
    obtain ⟨q, hq, rfl⟩ := List.mem_map.1 hi
    have := hs q (List.mem_filter.1 hq).1
    exact ⟨by omega, by simpa using this⟩
  have HA := Lib.hid (All_calls _ bt base root mt n w pats ns h ct hT hok hpl (fun q hq => by have := hs q hq; omega) _ B ps hps)
  have hfl := foundAt_len pats [] ps
  have c0 := ct.cell 0
  have hbl := ct.lt
  simp only [List.getElem?_cons_zero] at c0
  have HPZ := Lib.hid (And.intro hp8 hpz)
  clear h ct hT hok hs hp8 hpz
  go_enter Tryz.func35, Tryz.ntmps35
  go_wp2_with fail
  refine HA.out.mono ?_
  rintro e w1 ⟨r, rfl, hr, hb1⟩
  have hl1 := hl.below hb1
  have hps1 := hps.below hb1
  replace c0 := below_cell hb1 c0
  generalize hFE : foundAt pats [] ps = F at *
  have HFE := Lib.hid hFE
  clear hFE
  obtain ⟨Ar, capr, rfl, -, -, -⟩ := hr.form
  clear HA hl hps
  cases F with
  | nil =>
    go_wp2
    go_ret3
    rw [HFE.out]
    exact ⟨_, rfl, Sl.nil _ _ _, hb1⟩
  | cons i F =>
    obtain ⟨hi0, hi1⟩ := hin i (by simp)
    obtain ⟨br, or', rfl, -, -, cr⟩ := hr.int_at 0 (by simp)
    simp only [List.getElem_cons_zero, Nat.add_zero] at cr
    obtain ⟨k, rfl⟩ : ∃ k : Nat, i = (k : Int) := ⟨i.toNat, by omega⟩
    have hk : k < ls.length := by simpa using hi1
    obtain ⟨bl, ol, sv, rfl, -, -, cl, hsv⟩ := hl1.sl_at k hk
    have HF := Lib.hid (show findS ls ((k : Int) :: F) ps = ((k : Int), matchS ls[k] ps) by
      unfold findS
      simp [hk])
    have hM := fun q : Nat => match_calls ls[k] ps sv _ (fun _ => True) (w1.drewN q) (hsv.move (fun b hb _ => ⟨trivial, rfl⟩)) (hps1.move (fun b hb _ => ⟨trivial, rfl⟩)) HPZ.out.1 HPZ.out.2
    obtain ⟨As, caps, rfl, -, -, -⟩ := hsv.form
    have HM := Lib.hid hM
    generalize matchS ls[k] ps = m at *
    have hF1 : 1 ≤ ((k : Int) :: F).length := by simp
    have hfl' : ((k : Int) :: F).length < 65536 := by omega
    clear hM hin hsv hl1 hps1 hr HPZ hi0 hi1
    generalize ((k : Int) :: F).length = nF at *
    have hz : ((nF : Int) == 0) = false := beq_eq_false_iff_ne.2 (by omega)
    have g1 : 0 < nF := by omega
    have g4 : nF ≠ 0 := by omega
    have g2 : (0 : Int) ≤ (k : Int) := by omega
    have g3 : (k : Int) < (ls.length : Int) := by omega
    go_wp2_with fail
    go_region_held3 (fun w' => w'.cell? ⟨bt, 0, none⟩ = some (.slice (some ⟨bl, ol, none⟩) ls.length capl) ∧ w'.cell? ⟨br, or', none⟩ = some (.int .i64 k) ∧ w'.cell? ⟨bl, ol + k, none⟩ = some (.slice As ls[k].length caps)) (first | assumption | exact ⟨c0, cr, cl⟩ | exact ⟨below_cell hb2 c0, below_cell hb2 cr, below_cell hb2 cl⟩ | fail)
      (first
      | (go_at_call 55; refine (HM.out _).mono ?_; rintro e w2 ⟨r2, rfl, hr2, hb2⟩)
      | fail)
    all_goals
      have cr2 := below_cell hb2 cr
      obtain ⟨A2, cap2, rfl, -, -, -⟩ := hr2.form
      have hB2 : Below w.heap.size w w2 := below_then (below_drewN hb1 _) (Nat.le_refl _) hb2
      go_wp2
      go_ret3
      rw [HFE.out, HF.out]
      exact ⟨_, rfl, hr2.mono (fun b hb => Nat.le_trans hb1.size hb), hB2⟩
end Go.Proofs.YtejbkjndipineaaGreatDoor
