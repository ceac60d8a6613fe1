/- Walks of trie.All and its closure. -/
import Derived.Test.YtejbkjndipineaaGreatDoorTrie9
import Derived.Test.YtejbkjndipineaaGreatDoorSort2
import Derived.Sort.LotA
namespace Go.Proofs.YtejbkjndipineaaGreatDoor
open Go Go.RowKit PR
set_option linter.unusedVariables false
set_option linter.unusedSimpArgs false
set_option maxHeartbeats 400000
set_option maxRecDepth 100000
open Go.Maps Go.Shelf Go.Sort

theorem keyInt : Keyed Tryz.prog 3 := int_keyed Tryz.underlying3
theorem zeroInt (w : World) : (zeroValue 3).run Tryz.prog w = .ok (.int .i64 0) w := by kernel_rfl
/-- The turns of patterns, by their places. -/
def TM (w : World) (b n : Nat) (pats : List (List Seg × Nat)) : Prop := ∃ D : DataW Unit, w.ownsMap Tryz.prog 3 (plainElem Tryz.prog 3) b n D ∧ ∀ t (h : t < pats.length), D.atKey (.int .i64 (pats[t].2 : Int)) (.lit (.int .i64 0)) = .lit (.int .i64 (t : Int))
theorem wfInt {i : Nat} (h : i < 65536) : (Lit.int .i64 (i : Int)).wf = true := WalkArith.wf_i64 (by omega)
theorem TM.look {w : World} {b n : Nat} {pats : List (List Seg × Nat)} (h : TM w b n pats) (t : Nat) (ht : t < pats.length) (hs : pats[t].2 < 65536) (q : Nat) :
    (Instr.lookup 109 (.map (some b)) (.int .i64 (pats[t].2 : Int)) false).run Tryz.prog (w.drewN q) = .ok (.int .i64 (t : Int)) (w.drewN q) := by
  obtain ⟨D, h1, h2⟩ := h
  have h1' : (w.drewN q).ownsMap Tryz.prog 3 (plainElem Tryz.prog 3) b n D := h1
  obtain ⟨c, hrun, hat, hwc⟩ := h1'.lookup_int keyInt Tryz.underlying109 Tryz.underlying3 (zeroInt _) (keyOf_int_mk Tryz.underlying3 (wfInt hs))
  rw [h2 t ht] at hat
  cases hat
  exact hrun
theorem TM.ch {w w' : World} {b n : Nat} {pats : List (List Seg × Nat)} {S : Nat → Prop} (h : TM w b n pats) (hc : Ch S w w') (hS : ¬ S b) : TM w' b n pats := by
  obtain ⟨D, h1, h2⟩ := h
  exact ⟨D, ownsMap_ch h1 hc hS, h2⟩
theorem TM.lt {w : World} {b n : Nat} {pats : List (List Seg × Nat)} (h : TM w b n pats) : b < w.heap.size := by
  obtain ⟨D, h1, h2⟩ := h
  exact h1.lt

theorem turn_calls (pats : List (List Seg × Nat)) (bx bt mt n : Nat) (w : World) (c0 : w.cell? ⟨bx, 0, none⟩ = some (.pointer (some ⟨bt, 0, none⟩))) (c1 : w.cell? ⟨bt, 1, none⟩ = some (.map (some mt))) (hT : TM w mt n pats) (hs : ∀ q ∈ pats, q.2 < 65536) (hpl : pats.length < 65536)
    (x y : Nat) (hx : x < pats.length) (hy : y < pats.length) :
    Calls Tryz.prog 73 (#[.int .i64 (pats[x].2 : Int), .int .i64 (pats[y].2 : Int)] ++ #[.pointer (some ⟨bx, 0, none⟩)]) w fun e w' => e = .returned (.int .i64 ((x : Int) - (y : Int))) ∧ ∃ q, w' = w.drewN q := by
  have hlx := hT.look x hx (hs _ (List.getElem_mem hx))
  have hly := hT.look y hy (hs _ (List.getElem_mem hy))
  clear hT hs
  generalize pats[x].2 = i at *
  generalize pats[y].2 = j at *
  go_enter Tryz.func73, Tryz.ntmps73
  go_wp2_with fail
  go_quiet (fail)
  go_wp2
  go_ret
  exact ⟨rfl, _, rfl⟩

theorem perm_map_inv {α β : Type} (f : α → β) {L l : List β} (h : L.Perm l) : ∀ m : List α, L = m.map f → ∃ d : List α, d.Perm m ∧ l = d.map f := by
  induction h with
  | nil => intro m hm; exact ⟨m, List.Perm.refl _, hm⟩
  | cons x _ ih =>
    intro m hm
    cases m with
    | nil => cases hm
    | cons a m =>
      simp only [List.map_cons, List.cons.injEq] at hm
      obtain ⟨d, h1, h2⟩ := ih m hm.2
      exact ⟨a :: d, h1.cons a, by rw [List.map_cons, ← h2, hm.1]⟩
  | swap x y l =>
    intro m hm
    match m, hm with
    | a :: b :: m, hm =>
      simp only [List.map_cons, List.cons.injEq] at hm
      exact ⟨b :: a :: m, List.Perm.swap a b m, by rw [List.map_cons, List.map_cons, hm.1, hm.2.1, hm.2.2]⟩
  | trans _ _ ih1 ih2 =>
    intro m hm
    obtain ⟨d, h1, h2⟩ := ih1 m hm
    obtain ⟨d2, h3, h4⟩ := ih2 d h2
    exact ⟨d2, h3.trans h1, h4⟩
def selAt (pats : List (List Seg × Nat)) (ps : List ByteArray) (t : Fin pats.length) : Bool := selM pats[t].1 ps
def turnsOf (pats : List (List Seg × Nat)) (ps : List ByteArray) : List (Fin pats.length) := (List.finRange pats.length).filter (selAt pats ps)
theorem found_turns (pats : List (List Seg × Nat)) (ps : List ByteArray) : foundAt pats [] ps = (turnsOf pats ps).map (fun t => ((pats[t].2 : Nat) : Int)) := by
  unfold foundAt turnsOf
  have h : pats = (List.finRange pats.length).map (fun t => pats[t]) := by
    exact List.ext_getElem (by simp) (by simp)
  have e : (pats.filter (fun q => match restOf [] q.1 with | some t => selM t ps | none => false)) = ((List.finRange pats.length).filter (selAt pats ps)).map (fun t => pats[t]) := by
    conv => lhs; rw [h]
    rw [List.filter_map]
    congr 1
  refine (congrArg (List.map (fun q : List Seg × Nat => (q.2 : Int))) e).trans ?_
  rw [List.map_map]
  rfl
def cfT (pats : List (List Seg × Nat)) (x y : Fin pats.length) : Int := (x.val : Int) - (y.val : Int)
theorem lt_cfT (pats : List (List Seg × Nat)) (x y : Fin pats.length) : ltOf (cfT pats) x y = decide (x.val < y.val) := by
  unfold ltOf cfT
  congr 1
  rw [eq_iff_iff]
  omega
theorem swo_cfT (pats : List (List Seg × Nat)) : SWO (ltOf (cfT pats)) := by
  refine ⟨fun x => ?_, fun x y z h1 h2 => ?_, fun x y z h1 h2 => ?_⟩ <;> rw [lt_cfT] at * <;> simp at * <;> omega
theorem sorted_turns (pats : List (List Seg × Nat)) (ps : List ByteArray) (d : List (Fin pats.length)) (h : d.Perm (turnsOf pats ps)) : d.mergeSort (fun x y => !(ltOf (cfT pats)) y x) = turnsOf pats ps := by
  refine List.Perm.eq_of_pairwise (le := fun x y => (!(ltOf (cfT pats)) y x) = true) ?_ ?_ ?_ ((List.mergeSort_perm _ _).trans h)
  · intro a b _ _ h1 h2
    rw [lt_cfT] at h1 h2
    simp at h1 h2
    exact Fin.ext (by omega)
  · refine List.pairwise_mergeSort ?_ ?_ d
    · intro a b c h1 h2
      rw [lt_cfT] at *
      simp at *
      omega
    · intro a b
      rw [lt_cfT, lt_cfT]
      simp
      omega
  · refine List.Pairwise.filter _ ?_
    refine (List.pairwise_lt_finRange _).imp ?_
    intro a b hab
    rw [lt_cfT]
    simp
    exact Nat.le_of_lt hab

/-- slices.SortFunc at places, by their turns. -/
theorem sortTurns_calls (pats : List (List Seg × Nat)) (ps : List ByteArray) (out : List Int) (hp : out.Perm (foundAt pats [] ps)) (hpl : pats.length < 65536) (hs : ∀ q ∈ pats, q.2 < 65536) (r : Value) (bx bt mt n : Nat) (w : World)
    (hown : Ow (eInt .i64) 3 w (fun _ => False) r out) (hne : ∀ g, r.ownBlock = some g → g ≠ bx ∧ g ≠ bt ∧ g ≠ mt)
    (c0 : w.cell? ⟨bx, 0, none⟩ = some (.pointer (some ⟨bt, 0, none⟩))) (c1 : w.cell? ⟨bt, 1, none⟩ = some (.map (some mt))) (hT : TM w mt n pats) :
    Calls Tryz.prog 72 #[r, .func (.func 73) #[] #[.pointer (some ⟨bx, 0, none⟩)]] w fun e w' => e = .returned (.tuple #[]) ∧ Sl (eInt .i64) w' (fun b => r.ownBlock = some b) r (foundAt pats [] ps) ∧ Ch (fun b => r.ownBlock = some b) w w' := by
  have eg : ∀ args w, (callFunc 73 args).run Tryz.prog w = .ok (.enter 73 args) w := enters_of Tryz.func73 (by kernel_rfl) rfl
  have hs0 := hown.sl (B := fun b => r.ownBlock = some b) (fun _ c _ => False.elim c) (fun g hg => hg)
  have hlen := hp.length_eq
  obtain ⟨cs, ho, he, hn⟩ := hown
  obtain ⟨hlc, h2⟩ := ho
  rcases h2 with ⟨rfl, h0⟩ | ⟨g, capg, cur, rfl, _, hg, hnc, hcm, hcz, htk⟩
  · have e1 : out = [] := List.eq_nil_of_length_eq_zero h0
    have e2 : foundAt pats [] ps = [] := List.eq_nil_of_length_eq_zero (by rw [← hlen, e1]; rfl)
    refine (AnyF.slices_SortFunc_none { Tryz.sortL with } none 0 _ w).mono ?_
    rintro e w' ⟨rfl, rfl⟩
    exact ⟨rfl, by rw [e2]; exact Sl.nil _ _ _, Ch.refl _ _⟩
  · have hgl : g < w.heap.size := (Array.getElem?_eq_some_iff.1 hg).1
    by_cases h0 : out = []
    · subst h0
      have e2 : foundAt pats [] ps = [] := List.eq_nil_of_length_eq_zero (by rw [← hlen]; rfl)
      refine (AnyF.slices_SortFunc_none { Tryz.sortL with } (some ⟨g, 0, none⟩) capg _ w).mono ?_
      rintro e w' ⟨rfl, rfl⟩
      exact ⟨rfl, by rw [e2]; exact hs0, Ch.refl _ _⟩
    · obtain ⟨d, hd1, hd2⟩ := perm_map_inv (fun t : Fin pats.length => ((pats[t].2 : Nat) : Int)) hp.symm (turnsOf pats ps) (found_turns pats ps)
      have hpos : 0 < pats.length := by
        have h3 := foundAt_len pats [] ps
        have h4 := List.length_pos_iff.2 h0
        omega
      letI hinh : Inhabited (Fin pats.length) := ⟨⟨0, hpos⟩⟩
      have hdl : d.length = out.length := by rw [hd2, List.length_map]
      have hR : Row1 (fun t : Fin pats.length => Value.int .i64 ((pats[t].2 : Nat) : Int)) w g 0 d.toArray := by
        refine ⟨fun x => rfl, fun j hj => ⟨?_, by simp [World.frozen?, hg]⟩, hgl⟩
        have hj1 : j < d.length := by simpa using hj
        have hj' : j < out.length := by rw [← hdl]; exact hj1
        obtain ⟨b', o', e', -, -, c⟩ := hs0.int_at j hj'
        cases e'
        rw [c, getElem!_pos _ j hj]
        simp [hd2]
      obtain ⟨n1, n2, n3⟩ := hne g rfl
      have hcmp : CmpLays1 Tryz.prog 73 #[.pointer (some ⟨bx, 0, none⟩)] (fun t : Fin pats.length => Value.int .i64 ((pats[t].2 : Nat) : Int)) (cfT pats) g 0 d.toArray.size w := by
        intro m os dk hdk x y
        have hch : Ch (fun b => b = g) w (sortWorld (fun t : Fin pats.length => Value.int .i64 ((pats[t].2 : Nat) : Int)) w g 0 m dk os) := sw_ch ⟨m, os, rfl⟩
        refine (turn_calls pats bx bt mt n _ (hch.cell c0 (fun e => n1 e.symm)) (hch.cell c1 (fun e => n2 e.symm)) (hT.ch hch (fun e => n3 e.symm)) hs hpl x.val y.val x.isLt y.isLt).mono ?_
        rintro e w' ⟨rfl, q, rfl⟩
        exact ⟨rfl, q, #[], by rw [grow_empty]⟩
      have hst := Any.slices_SortFunc_total Tryz.sortL (fun t : Fin pats.length => Value.int .i64 ((pats[t].2 : Nat) : Int)) hR.hO (cfT pats) (swo_cfT pats) 73 #[.pointer (some ⟨bx, 0, none⟩)] g 0 capg d.toArray w eg hcmp hR.hH hR.hblk (by
        have h3 := foundAt_len pats [] ps
        simp
        omega) (by
        intro x y h1 h2
        rw [lt_cfT] at h1 h2
        simp at h1 h2
        exact Fin.ext (by omega))
      have e1 : out.length = d.toArray.size := by simp [hdl]
      rw [e1]
      refine hst.mono ?_
      rintro e w' ⟨rfl, m, os, rfl⟩
      have hsort := sorted_turns pats ps d hd1
      have hsw : SW (fun t : Fin pats.length => Value.int .i64 ((pats[t].2 : Nat) : Int)) w g 0 (turnsOf pats ps).toArray (sortWorld (fun t : Fin pats.length => Value.int .i64 ((pats[t].2 : Nat) : Int)) w g 0 m (turnsOf pats ps).toArray os) := ⟨m, os, rfl⟩
      have htl : (turnsOf pats ps).length = d.length := hd1.length_eq.symm
      rw [show d.toArray.toList = d from rfl, hsort]
      refine ⟨rfl, ?_, (sw_ch hsw).mono (fun b _ e => by rw [e]; rfl)⟩
      have hfl : (foundAt pats [] ps).length = d.length := by rw [found_turns, List.length_map, htl]
      refine ⟨some ⟨g, 0, none⟩, capg, by rw [hfl]; simp, by rw [hfl, hdl]; exact hnc, hcm, fun _ => ⟨g, 0, rfl, rfl, Nat.lt_of_lt_of_le hgl (sw_ch hsw).size, fun i hi => ⟨[.int .i64 (foundAt pats [] ps)[i]], rfl, fun j u hj => ?_⟩⟩⟩
      cases j with
      | zero =>
        simp only [List.getElem?_cons_zero, Option.some.injEq] at hj
        subst hj
        have hi' : i < (turnsOf pats ps).toArray.size := by simp; omega
        have h1 := SW.c1 hsw hR (by simp [htl]) i hi'
        have e1 : (⟨g, 0 + i * (eInt .i64).sz + 0, none⟩ : Addr) = ⟨g, 0 + i, none⟩ := by simp [eInt]
        rw [e1, h1, getElem!_pos _ i hi']
        simp [found_turns]
      | succ j => simp at hj

set_option maxHeartbeats 1000000 in
theorem All_calls (lv : Value) (bt base root mt n : Nat) (w : World) (pats : List (List Seg × Nat)) (ns : List TN) (h : Trie w base root pats ns) (ct : Blk w bt [lv, .map (some mt), .pointer (some ⟨root, 0, none⟩)] 113) (hT : TM w mt n pats)
    (hok : ∀ q ∈ pats, ∀ y ∈ q.1, SegOk y) (hpl : pats.length < 65536) (hs : ∀ q ∈ pats, q.2 < 65536) (v : Value) (B : Nat → Prop) (ps : List ByteArray) (hps : Sl eStr w B v ps) :
    Calls Tryz.prog 54 #[.pointer (some ⟨bt, 0, none⟩), v] w fun e w' => ∃ r, e = .returned r ∧ Sl (eInt .i64) w' (fun b => w.heap.size ≤ b) r (foundAt pats [] ps) ∧ Below w.heap.size w w' := by
  obtain ⟨A, cap, rfl, -, -, -⟩ := hps.form
  obtain ⟨x0, hx0, hp0, rfl⟩ := h.root
  have hmf : ∀ (fn : Fn) (first cap : Array Value) (w : World), (Instr.makeFunc fn first cap).run Tryz.prog w = .ok (.func fn first cap) w := fun _ _ _ _ => rfl
  have hal : Below w.heap.size w (w.alloc (.cells #[.pointer (some ⟨bt, 0, none⟩)] 92)) := below_alloc (Below.refl _ _) (Nat.le_refl _) _
  have hbx : Blk (w.alloc (.cells #[.pointer (some ⟨bt, 0, none⟩)] 92)) w.heap.size [.pointer (some ⟨bt, 0, none⟩)] 92 := Blk.new w _ _
  have hA := trieAll_calls base x0.b pats ns hok hpl ps x0 _ B _ (h.below hal) hx0 (hps.below hal)
  have hct := ct.below hal ct.lt
  have hTl := hT.lt
  have hbl := ct.lt
  have HT1 := Lib.hid (hT.ch (Ch.of_below hal (fun _ => False)) (fun c => c))
  have hsz : (w.alloc (.cells #[.pointer (some ⟨bt, 0, none⟩)] 92)).heap.size = w.heap.size + 1 := by simp
  have HAL := Lib.hid hal
  rw [hp0] at hA
  have HA := Lib.hid hA
  have HBX := Lib.hid hbx
  have HCT := Lib.hid hct
  have HZ := Lib.hid hsz
  have HS := Lib.hid hs
  clear hA h hT hok hs hps hal hp0 hx0 hct ct hbx hsz
  have c2 := HCT.out.cell 2
  have b0 := HBX.out.cell 0
  simp only [List.getElem?_cons_zero, List.getElem?_cons_succ] at c2 b0
  go_enter Tryz.func54, Tryz.ntmps54
  go_wp2_with fail
  refine HA.out.mono ?_
  rintro e w1 ⟨r, out, rfl, hown, hgb, hpm, hb1⟩
  obtain ⟨Ar, capr, rfl, -, -⟩ := hown.form
  have hB1 := below_then HAL.out (Nat.le_refl _) hb1
  have hz1 := HZ.out
  have HT2 := Lib.hid (HT1.out.ch (Ch.of_below hb1 (fun _ => False)) (fun c => c))
  rw [hz1] at hgb hb1
  have d1 := (HCT.out.below hb1 (by omega)).cell 1
  have d0 := (HBX.out.below hb1 (by omega)).cell 0
  simp only [List.getElem?_cons_zero, List.getElem?_cons_succ] at d1 d0
  have hS := sortTurns_calls pats ps out hpm hpl HS.out (.slice Ar out.length capr) w.heap.size bt mt n w1 hown (fun g hg => by have := hgb g hg; omega) d0 d1 HT2.out
  have HSC := Lib.hid hS
  have HGB := Lib.hid hgb
  clear hS hown hpm hgb hb1 c2 b0 d1 d0
  go_wp2_with fail
  refine HSC.out.mono ?_
  rintro e w2 ⟨rfl, hs2, hch2⟩
  have hB2 : Below w.heap.size w w2 := hB1.trans (hch2.below hB1.size (fun b hb e => by have := HGB.out b e; omega))
  clear hch2
  go_wp2
  go_ret
  exact ⟨_, rfl, hs2.mono (fun b hb => by have := HGB.out b hb; omega), hB2⟩
end Go.Proofs.YtejbkjndipineaaGreatDoor
