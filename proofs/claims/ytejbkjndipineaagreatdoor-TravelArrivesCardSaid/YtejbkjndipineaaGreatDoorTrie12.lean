/- Walk of trie.New. -/
import Derived.Test.YtejbkjndipineaaGreatDoorTrie11
import Derived.Test.YtejbkjndipineaaGreatDoorTrie6
import Derived.Test.YtejbkjndipineaaGreatDoorSort3
import Derived.Deep.RegionLaw
namespace Go.Proofs.YtejbkjndipineaaGreatDoor
open Go Go.RowKit PR
set_option linter.unusedVariables false
set_option linter.unusedSimpArgs false
set_option maxHeartbeats 400000
set_option maxRecDepth 100000
open Go.Maps

theorem trie_start {w : World} {base b m : Nat} (h1 : base ≤ b) (h2 : base ≤ m) (hne : b ≠ m) (blk : Blk w b [.map (some m), .slice none 0 0] 131) (mp : w.ownsMap Tryz.prog 59 ptrElem m 0 (.map [])) : Trie w base b [] [⟨[], b, m, .slice none 0 0⟩] := by
  refine ⟨⟨_, List.mem_singleton.2 rfl, rfl, rfl⟩, by simp [TN.blocks, Value.ownBlock, hne], ?_, by simp, ?_, fun p hp => by simp at hp, ?_⟩
  · intro k hk
    simp [TN.blocks, Value.ownBlock] at hk
    omega
  · intro x hx
    simp at hx
    subst hx
    refine ⟨blk, Ow.nil _ _ _ _, _, mp.mono (Nat.zero_le _), fun s hs => ?_⟩
    have : childOf [(⟨[], b, m, .slice none 0 0⟩ : TN)] ([] ++ [s]) = none := by simp [childOf]
    rw [this]
    exact ⟨rfl, rfl⟩
  · intro x hx q hq
    simp at hx
    subst hx
    exact ⟨_, List.mem_singleton.2 rfl, (List.prefix_nil.1 hq).symm⟩
/-- Patterns in an order, with their places. -/
def patsOf (ls : List (List Seg)) (order : List Int) : List (List Seg × Nat) := order.map (fun i => (ls[i.toNat]?.getD [], i.toNat))
theorem TM.made (w : World) : TM (w.alloc (.map #[] 0)) w.heap.size 0 [] := ⟨_, World.ownsMap_made _ _ _ _, fun t h => by simp at h⟩
theorem TM.put {w' : World} {b n : Nat} {pats : List (List Seg × Nat)} {l : List Seg} {i : Nat} {D : DataW Unit} (h2 : ∀ t (h : t < pats.length), D.atKey (.int .i64 (pats[t].2 : Int)) (.lit (.int .i64 0)) = .lit (.int .i64 (t : Int))) (hD : IsMap D)
    (hn : ∀ q ∈ pats, q.2 ≠ i) (h : w'.ownsMap Tryz.prog 3 (plainElem Tryz.prog 3) b n (D.put (.int .i64 (i : Int)) (.lit (.int .i64 (pats.length : Int))))) : TM w' b n (pats ++ [(l, i)]) := by
  refine ⟨_, h, fun t ht => ?_⟩
  by_cases hlt : t < pats.length
  · rw [List.getElem_append_left hlt, atKey_put_other, h2 t hlt]
    intro e
    have := hn _ (List.getElem_mem hlt)
    simp at e
    omega
  · have : t = pats.length := by simp at ht; omega
    subst this
    simp only [List.getElem_append_right (Nat.le_refl _), Nat.sub_self, List.getElem_cons_zero]
    rw [atKey_put_same hD (by trivial)]

theorem infoSlSeg : (Tryz.prog.info? 42).map (fun i => (i.zero, i.size, i.bytes)) = some (some (.slice none 0 0), 1, 24) := by kernel_rfl
/-- What is made first. -/
theorem new_start (w : World) : Below w.heap.size w ((((w.alloc (.map #[] 0)).alloc (.map #[] 0)).alloc (.cells #[.map (some (w.heap.size + 1)), .slice none 0 0] 131)).alloc (.cells #[.slice none 0 0, .map (some w.heap.size), .pointer (some ⟨w.heap.size + 1 + 1, 0, none⟩)] 113)) ∧
    ((((w.alloc (.map #[] 0)).alloc (.map #[] 0)).alloc (.cells #[.map (some (w.heap.size + 1)), .slice none 0 0] 131)).alloc (.cells #[.slice none 0 0, .map (some w.heap.size), .pointer (some ⟨w.heap.size + 1 + 1, 0, none⟩)] 113)).heap.size = w.heap.size + 1 + 1 + 1 + 1 ∧
    Blk ((((w.alloc (.map #[] 0)).alloc (.map #[] 0)).alloc (.cells #[.map (some (w.heap.size + 1)), .slice none 0 0] 131)).alloc (.cells #[.slice none 0 0, .map (some w.heap.size), .pointer (some ⟨w.heap.size + 1 + 1, 0, none⟩)] 113)) (w.heap.size + 1 + 1 + 1) [.slice none 0 0, .map (some w.heap.size), .pointer (some ⟨w.heap.size + 1 + 1, 0, none⟩)] 113 ∧
    Trie ((((w.alloc (.map #[] 0)).alloc (.map #[] 0)).alloc (.cells #[.map (some (w.heap.size + 1)), .slice none 0 0] 131)).alloc (.cells #[.slice none 0 0, .map (some w.heap.size), .pointer (some ⟨w.heap.size + 1 + 1, 0, none⟩)] 113)) w.heap.size (w.heap.size + 1 + 1) [] [⟨[], w.heap.size + 1 + 1, w.heap.size + 1, .slice none 0 0⟩] ∧
    TM ((((w.alloc (.map #[] 0)).alloc (.map #[] 0)).alloc (.cells #[.map (some (w.heap.size + 1)), .slice none 0 0] 131)).alloc (.cells #[.slice none 0 0, .map (some w.heap.size), .pointer (some ⟨w.heap.size + 1 + 1, 0, none⟩)] 113)) w.heap.size 0 [] := by
  have h1 := below_alloc (Below.refl w.heap.size w) (Nat.le_refl _) (.map #[] 0)
  have h2 := below_alloc h1 (Nat.le_refl _) (.map #[] 0)
  have h3 := below_alloc h2 (Nat.le_refl _) (.cells #[.map (some (w.heap.size + 1)), .slice none 0 0] 131)
  have h4 := below_alloc h3 (Nat.le_refl _) (.cells #[.slice none 0 0, .map (some w.heap.size), .pointer (some ⟨w.heap.size + 1 + 1, 0, none⟩)] 113)
  have hm := World.ownsMap_made (w.alloc (.map #[] 0)) Tryz.prog 59 ptrElem
  rw [show (w.alloc (.map #[] 0)).heap.size = w.heap.size + 1 by simp] at hm
  have hb := (Blk.new ((w.alloc (.map #[] 0)).alloc (.map #[] 0)) [.map (some (w.heap.size + 1)), .slice none 0 0] 131).alloc (.cells #[.slice none 0 0, .map (some w.heap.size), .pointer (some ⟨w.heap.size + 1 + 1, 0, none⟩)] 113)
  rw [show ((w.alloc (.map #[] 0)).alloc (.map #[] 0)).heap.size = w.heap.size + 1 + 1 by simp] at hb
  have hb2 := Blk.new (((w.alloc (.map #[] 0)).alloc (.map #[] 0)).alloc (.cells #[.map (some (w.heap.size + 1)), .slice none 0 0] 131)) [.slice none 0 0, .map (some w.heap.size), .pointer (some ⟨w.heap.size + 1 + 1, 0, none⟩)] 113
  rw [show (((w.alloc (.map #[] 0)).alloc (.map #[] 0)).alloc (.cells #[.map (some (w.heap.size + 1)), .slice none 0 0] 131)).heap.size = w.heap.size + 1 + 1 + 1 by simp] at hb2
  refine ⟨h4, by simp, hb2, trie_start (by omega) (by omega) (by omega) hb ((hm.alloc _).alloc _), ?_⟩
  exact ((TM.made w).ch (((Ch.refl (fun _ => False) _).alloc _).alloc _ |>.alloc _) (fun c => c))

theorem new_own {base : Nat} {v : Value} {acc : List (List Seg)} {wo wA : World} (hown : Ow (eSl eSeg) 42 wo (fun b => base ≤ b ∧ v.ownBlock ≠ some b) v acc) (hbA : Below wo.heap.size wo wA) (o : Obj) :
    Ow (eSl eSeg) 42 (wA.alloc o) (fun b => base ≤ b ∧ v.ownBlock ≠ some b ∧ b < wA.heap.size) v acc := by
  have hb2 := below_alloc hbA (Nat.le_refl _) o
  exact hown.move (fun b hb hl => ⟨⟨hb.1, hb.2, Nat.lt_of_lt_of_le hl hbA.size⟩, hb2.block b hl⟩) (fun g hg => ⟨fun c => c.2.1 hg, hb2.block g (hown.lt g hg)⟩)
theorem new_src {base : Nat} {v r : Value} {acc : List (List Seg)} {l : List Seg} {wo wA : World} (hown : Ow (eSl eSeg) 42 wo (fun b => base ≤ b ∧ v.ownBlock ≠ some b) v acc) (hbA : Below wo.heap.size wo wA) (hr : Sl eSeg wA (fun b => wo.heap.size ≤ b) r l) (hb : base ≤ wo.heap.size) :
    SlP (eSl eSeg).sz (wA.alloc (.cells #[r] 42)) (fun _ => True) (.slice (some ⟨wA.heap.size, 0, none⟩) 1 1) [l].length (fun i h cs => (eSl eSeg).R (wA.alloc (.cells #[r] 42)) (fun b => base ≤ b ∧ v.ownBlock ≠ some b ∧ b < wA.heap.size) [l][i] cs) := by
  refine one_new (eSl eSeg) wA _ l [r] 42 ⟨r, rfl, ?_⟩ (fun b h => h.2.2)
  exact hr.move (fun b h hl => ⟨⟨by omega, fun e => by have := hown.lt b e; omega, hl⟩, rfl⟩)
theorem new_after {base bt : Nat} {v : Value} {cs : List Value} {t : Nat} {wo wA w' : World} {o : Obj} (hbk : Blk wo bt cs t) (hbA : Below wo.heap.size wo wA) (hg : (wA.alloc o).grownBy w' v.ownBlock) (hG : ∀ g, v.ownBlock = some g → base ≤ g) (hb : bt < base) : Blk w' bt cs t :=
  ((hbk.below hbA hbk.lt).alloc o).ch (Ch.of_grown hg) (fun e => by have := hG bt e.symm; omega)
theorem new_own2 {base : Nat} {v v' : Value} {acc : List (List Seg)} {wA w' : World} {o : Obj} (hown' : Ow (eSl eSeg) 42 w' (fun b => (base ≤ b ∧ v.ownBlock ≠ some b ∧ b < wA.heap.size) ∧ b < (wA.alloc o).heap.size) v' acc) (hv : v'.ownBlock = v.ownBlock ∨ ∀ g, v'.ownBlock = some g → (wA.alloc o).heap.size ≤ g) (hG : ∀ g, v.ownBlock = some g → base ≤ g) (hb : base ≤ wA.heap.size)
    {bt : Nat} (hbt : bt < base) (u : Value) : Ow (eSl eSeg) 42 (w'.setCell ⟨bt, 0, none⟩ u) (fun b => base ≤ b ∧ v'.ownBlock ≠ some b) v' acc ∧ ∀ g, v'.ownBlock = some g → base ≤ g := by
  have hz : (wA.alloc o).heap.size = wA.heap.size + 1 := by simp
  have hG' : ∀ g, v'.ownBlock = some g → base ≤ g := by
    intro g hg
    rcases hv with hv | hv
    · exact hG g (hv ▸ hg)
    · have := hv g hg
      omega
  have hch : Ch (fun b => b = bt) w' (w'.setCell ⟨bt, 0, none⟩ u) := (Ch.refl _ _).setCell _ _ (fun _ => rfl)
  refine ⟨hown'.move (fun b hb hl => ⟨⟨hb.1.1, fun e => ?_⟩, hch.block b hl (by have := hb.1.1; omega)⟩) (fun g hg => ⟨fun c => c.2 hg, hch.block g (hown'.lt g hg) (by have := hG' g hg; omega)⟩), hG'⟩
  rcases hv with hv | hv
  · exact hb.1.2.1 (hv ▸ e)
  · have := hv b e
    have := hb.1.2.2
    omega

theorem patGo_ok : ∀ (xs pre : List Seg), patGo pre xs = true → ∀ s ∈ xs, SegOk s
  | [], _, _, s, hs => by simp at hs
  | x :: xs, pre, h, s, hs => by
    rw [patGo] at h
    simp only [Bool.and_eq_true, decide_eq_true_eq] at h
    rcases List.mem_cons.1 hs with e | e
    · subst e
      have h1 := h.1.1.1.1.1
      unfold namedS at h1
      simp only [Bool.and_eq_true, decide_eq_true_eq] at h1
      exact ⟨WalkArith.wf_i64 (by omega), by unfold maxLen; omega⟩
    · exact patGo_ok xs _ h.2 s e
theorem patR_ok {l : List Seg} (h : patR l = true) : l.length ≤ 8 ∧ ∀ s ∈ l, SegOk s := by
  unfold patR at h
  simp only [Bool.and_eq_true, decide_eq_true_eq] at h
  exact ⟨h.1, patGo_ok _ _ h.2⟩
theorem sorted_at (ls : List (List Seg)) (k : Nat) (hk : k < (sortedS ls).length) : ∃ j, j < ls.length ∧ (sortedS ls)[k] = (j : Int) ∧ ∀ q ∈ patsOf ls ((sortedS ls).take k), q.2 ≠ j := by
  have hp := sortedS_perm ls
  have hm : (sortedS ls)[k] ∈ (List.range ls.length).map (fun k => ((k : Nat) : Int)) := hp.mem_iff.1 (List.getElem_mem hk)
  obtain ⟨j, hj, he⟩ := List.mem_map.1 hm
  have hnd : (sortedS ls).Nodup := by
    rw [hp.nodup_iff]
    unfold List.Nodup
    rw [List.pairwise_map]
    exact List.nodup_range.imp (fun h e => h (by exact_mod_cast e))
  refine ⟨j, List.mem_range.1 hj, he.symm, fun q hq e => ?_⟩
  obtain ⟨i, hi, rfl⟩ := List.mem_map.1 hq
  have hi2 : i ∈ (List.range ls.length).map (fun k => ((k : Nat) : Int)) := hp.mem_iff.1 (List.mem_of_mem_take hi)
  obtain ⟨i', -, rfl⟩ := List.mem_map.1 hi2
  simp only [Int.toNat_natCast] at e
  subst e
  rw [← List.take_append_drop k (sortedS ls), List.nodup_append] at hnd
  have hd : (sortedS ls)[k] ∈ (sortedS ls).drop k := by
    rw [List.drop_eq_getElem_cons hk]
    exact List.mem_cons_self ..
  exact hnd.2.2 _ hi _ hd (by rw [← he])
theorem patsOf_snoc (ls : List (List Seg)) (k j : Nat) (hk : k < (sortedS ls).length) (hj : j < ls.length) (he : (sortedS ls)[k] = (j : Int)) : patsOf ls ((sortedS ls).take (k + 1)) = patsOf ls ((sortedS ls).take k) ++ [(ls[j], j)] := by
  unfold patsOf
  rw [List.take_succ_eq_append_getElem hk, List.map_append, he]
  simp [hj]

set_option maxHeartbeats 4000000 in
theorem new_calls (ls : List (List Seg)) (v : Value) (B : Nat → Prop) (w : World) (hl : Sl (eSl eSeg) w B v ls) (hpos : 0 < ls.length) (h20 : ls.length < 20) (hR : ∀ l ∈ ls, patR l = true) :
    Calls Tryz.prog 34 #[v] w fun e w' => ∃ bt mt root n lv ns, e = .returned (.pointer (some ⟨bt, 0, none⟩)) ∧ Blk w' bt [lv, .map (some mt), .pointer (some ⟨root, 0, none⟩)] 113 ∧ Trie w' w.heap.size root (patsOf ls (sortedS ls)) ns ∧ TM w' mt n (patsOf ls (sortedS ls)) ∧ Sl (eSl eSeg) w' (fun b => w.heap.size ≤ b) lv ls ∧ Below w.heap.size w w' := by
  obtain ⟨A, cap, rfl, hcap, hmax, -⟩ := hl.form
  unfold maxLen at hmax
  have hmm := @run_makeMap Tryz.prog
  have HR := Lib.hid hR
  clear hR
  go_enter Tryz.func34, Tryz.ntmps34
  go_wp2_with (first | (go_at_call 50; refine (blank_calls _).mono ?_; rintro e wA ⟨rfl, rfl⟩) | go_in)
  generalize hW0 : ((((w.alloc (.map #[] 0)).alloc (.map #[] 0)).alloc (.cells #[.map (some (w.heap.size + 1)), .slice none 0 0] 131)).alloc (.cells #[.slice none 0 0, .map (some w.heap.size), .pointer (some ⟨w.heap.size + 1 + 1, 0, none⟩)] 113)) = W0
  have HN := Lib.hid (new_start w)
  rw [hW0] at HN
  clear hW0
  obtain ⟨hB0, hz0, hbt, -⟩ := HN.out
  generalize hbt' : w.heap.size + 1 + 1 + 1 = bt at *
  have HBT := Lib.hid hbt'
  have hwb : w.heap.size + 2 < bt := by omega
  clear hbt'
  go_loopw [14] (fun iv wr => ∃ (k : Nat) (lv : Value), iv = .int .i64 k ∧ k ≤ ls.length ∧ Hid (Blk wr bt [lv, .map (some w.heap.size), .pointer (some ⟨w.heap.size + 1 + 1, 0, none⟩)] 113) ∧ Ow (eSl eSeg) 42 wr (fun b => W0.heap.size ≤ b ∧ lv.ownBlock ≠ some b) lv (ls.take k) ∧ Hid (∀ g, lv.ownBlock = some g → W0.heap.size ≤ g) ∧ Ch (fun b => b = bt) W0 wr) (fun iv _ => ls.length - (intOf iv).toNat)
  case atStart => exact ⟨0, _, rfl, by omega, Lib.hid hbt, (Ow.nil _ _ _ _), Lib.hid (fun g hg => by simp [Value.ownBlock] at hg), Ch.refl _ _⟩
  case round =>
    obtain ⟨k, lv, rfl, hk, HBK, hown, HG, hch⟩ := hrel
    have hBw : Below w.heap.size w wr := hB0.trans (hch.below (by omega) (fun b hb e => by omega))
    obtain ⟨A0, cap0, rfl, hc0, hm0⟩ := hown.form
    unfold maxLen at hm0
    by_cases hlt : k < ls.length
    · obtain ⟨bl, ol, sv, rfl, -, -, cl, hsv⟩ := (hl.below hBw).sl_at k hlt
      have HTK := Lib.hid (List.take_succ_eq_append_getElem hlt)
      have hl8 : ls[k].length ≤ 8 := by
        have := HR.out _ (List.getElem_mem hlt)
        simp [patR] at this
        exact this.1
      generalize ls[k] = l at *
      have hak : (ls.take k).length ≤ k := by rw [List.length_take]; omega
      generalize ls.take k = acc at *
      obtain ⟨wo, rfl⟩ : ∃ wo : World, wo = wr := ⟨_, rfl⟩
      have c0 := HBK.out.cell 0
      have f0 := HBK.out.frozen 0
      simp only [List.getElem?_cons_zero] at c0
      have hC := clone_calls l sv _ wo.drew (Sl.move (fun b hb _ => ⟨hb, rfl⟩) hsv) (by omega)
      obtain ⟨As, caps, rfl, -, -, -⟩ := hsv.form
      have HC := Lib.hid hC
      have HOW := Lib.hid hown
      clear hC hsv hown
      go_wp2_with fail
      have hzo : W0.heap.size ≤ wo.heap.size := hch.size
      go_region_law
        (first
        | (go_simp; go_at_call 51; refine HC.out.mono ?_; rintro e wA ⟨r, rfl, hr, hbA⟩; obtain ⟨Ar, capr, rfl, -, -, -⟩ := hr.form; have k0 := below_cell hbA (show wo.drew.cell? _ = _ from c0); have hbB := Below.trans (Below.drew (Below.refl wo.heap.size wo)) hbA; have k00 := below_cell (below_alloc (Below.refl _ _) (Nat.le_refl _) (.cells #[.slice Ar l.length capr] 42)) k0)
        | (rw [if_pos (by rfl)]; refine op_app (eSl eSeg) (.tmp 22) (.tmp 25) 90 42 rfl Tryz.underlying90 (.slice none 0 0) 24 infoSlSeg rfl (by decide) (fun b => W0.heap.size ≤ b ∧ (Value.slice A0 acc.length cap0).ownBlock ≠ some b ∧ b < wA.heap.size) _ acc rfl ?_ _ [l] rfl ?_ ?_ ?_ ?_; (focus exact new_own HOW.out hbB _); (focus exact new_src HOW.out hbB hr hzo); (focus unfold maxLen; show acc.length + 1 ≤ _; omega); (focus show (acc.length + 1) * 24 ≤ _; omega); intro v' w' hown' hg' hv'; obtain ⟨Av, capv, rfl, -, -⟩ := hown'.form; have kk := new_after HBK.out hbB hg' (fun g hg => HG.out g hg) (by omega); have k1 : w'.cell? ⟨bt, 0, none⟩ = some (.slice A0 acc.length cap0) := kk.cell 0; have f1 := kk.frozen 0))
      all_goals
        have hres := new_own2 hown' hv' HG.out (Nat.le_trans hzo hbB.size) (bt := bt) (by omega) (.slice Av (acc ++ [l]).length capv)
        have hbk2 := (new_after HBK.out hbB hg' (fun g hg => HG.out g hg) (by omega)).set 0 (.slice Av (acc ++ [l]).length capv)
        have hch2 : Ch (fun b => b = bt) W0 (w'.setCell ⟨bt, 0, none⟩ (.slice Av (acc ++ [l]).length capv)) := ((hch.then_below (below_alloc hbB (Nat.le_refl _) _)).trans (Ch.of_grown hg') (fun b hb e => by have := HG.out b e.symm; omega)).setCell _ _ (fun _ => rfl)
        have el : (acc ++ [l]).length = acc.length + 1 := by simp
        rw [el] at hres hbk2 hch2
        clear el
        have HRES := Lib.hid hres
        have HBK2 := Lib.hid hbk2
        have HCH2 := Lib.hid hch2
        clear hown' hg' hv' kk k0 k00 k1 f1 hbA hbB hr hres hbk2 hch2
        go_wp2
        go_roundw
      all_goals
        first
        | (simp [intOf]; omega; done)
        | exact ⟨k + 1, _, by go_num, by omega, HBK2, by rw [HTK.out]; exact HRES.out.1, Lib.hid HRES.out.2, HCH2.out⟩
    · obtain rfl : k = ls.length := by omega
      obtain ⟨wl, rfl⟩ : ∃ wl : World, wl = wr := ⟨_, rfl⟩
      rw [List.take_length] at hown HBK HG
      obtain ⟨-, -, -, hT0, hM0⟩ := HN.out
      have hls : Sl (eSl eSeg) wl (fun b => W0.heap.size ≤ b ∧ b < wl.heap.size) (.slice A0 ls.length cap0) ls := (hown.sl (B := fun b => W0.heap.size ≤ b) (fun b h _ => h.1) (fun g hg => HG.out g hg)).low
      have hT1 := hT0.keep hch (fun b hb e => by simp [TN.blocks, Value.ownBlock] at hb; omega)
      have hM1 := hM0.ch hch (fun e => by omega)
      have HS := Lib.hid (sorted_calls ls _ _ wl hls hpos h20)
      have HBW := Lib.hid hBw
      have hzw : W0.heap.size ≤ wl.heap.size := hch.size
      have c0 := HBK.out.cell 0
      simp only [List.getElem?_cons_zero] at c0
      clear hT0 hM0 hbt hown hch hBw hB0
      go_wp2_with fail
      refine HS.out.mono ?_
      rintro e w2 ⟨ov, rfl, hov, hb2⟩
      have hol : (sortedS ls).length = ls.length := by rw [(sortedS_perm ls).length_eq]; simp
      obtain ⟨Ao, capo, rfl, -, -, -⟩ := hov.form
      have HT2 := Lib.hid (hT1.below hb2)
      have HM2 := Lib.hid (hM1.ch (Ch.of_below hb2 (fun _ => False)) (fun c => c))
      have HLS := Lib.hid (hls.below hb2)
      have HBK2 := Lib.hid (HBK.out.below hb2 HBK.out.lt)
      have HB2 := Lib.hid (below_then HBW.out (Nat.le_refl _) hb2)
      have hz2 : wl.heap.size ≤ w2.heap.size := hb2.size
      rw [hol]
      have HOV := Lib.hid (hov.low)
      clear hov hT1 hM1 hls hb2 c0 HS HBW HBK HG HN
      go_wp2
      go_loopw [36] (fun iv wx => ∃ (k : Nat) (ns : List TN), iv = .int .i64 k ∧ k ≤ ls.length ∧ Hid (Trie wx w.heap.size (w.heap.size + 1 + 1) (patsOf ls ((sortedS ls).take k)) ns) ∧ Hid (ns.length ≤ 1 + 8 * k) ∧ Hid (TM wx w.heap.size k (patsOf ls ((sortedS ls).take k))) ∧
        Hid (∀ q ∈ ns.flatMap TN.blocks, q = w.heap.size + 1 ∨ q = w.heap.size + 1 + 1 ∨ w2.heap.size ≤ q) ∧ Hid (Ch (fun b => b = w.heap.size ∨ b = w.heap.size + 1 ∨ b = w.heap.size + 1 + 1) w2 wx)) (fun iv _ => ls.length - (intOf iv).toNat)
      case atStart => exact ⟨0, _, rfl, by omega, HT2, Lib.hid (by simp), HM2, Lib.hid (fun q hq => by simp [TN.blocks, Value.ownBlock] at hq; omega), Lib.hid (Ch.refl _ _)⟩
      case round =>
        obtain ⟨k, ns, rfl, hk, HT, HNL, HM, HNB, HC⟩ := hrel
        by_cases hlt : k < ls.length
        · obtain ⟨j, hj, hje, hjn⟩ := sorted_at ls k (by omega)
          have HPO := Lib.hid (patsOf_snoc ls k j (by omega) hj hje)
          have HJN := Lib.hid hjn
          have hpl : (patsOf ls ((sortedS ls).take k)).length = k := by unfold patsOf; rw [List.length_map, List.length_take]; omega
          obtain ⟨hj8, hjok⟩ := patR_ok (HR.out _ (List.getElem_mem hj))
          have HJOK := Lib.hid hjok
          have HPR := Lib.hid (HR.out _ (List.getElem_mem hj))
          have hzx : w2.heap.size ≤ wr.heap.size := HC.out.size
          have hls : Sl (eSl eSeg) wr (fun b => W0.heap.size ≤ b ∧ b < wl.heap.size) (.slice A0 ls.length cap0) ls := HLS.out.ch HC.out (fun b hb e => by omega)
          have hov : Sl (eInt .i64) wr (fun b => wl.heap.size ≤ b ∧ b < w2.heap.size) (.slice Ao (sortedS ls).length capo) (sortedS ls) := HOV.out.ch HC.out (fun b hb e => by omega)
          obtain ⟨bo, oo, rfl, -, -, co⟩ := hov.int_at k (by omega)
          rw [hje] at co
          have HLX := Lib.hid hls
          obtain ⟨bl, ol, sv, rfl, -, -, cl, hsv⟩ := hls.sl_at j hj
          have hbk := HBK2.out.ch HC.out (fun e => by omega)
          have c0 := hbk.cell 0
          simp only [List.getElem?_cons_zero] at c0
          have HBKX := Lib.hid hbk
          have hP := patRight_calls ls[j] _ _ _ hsv
          rw [HPR.out] at hP
          obtain ⟨As, caps, rfl, -, -, -⟩ := hsv.form
          have HP := Lib.hid hP
          clear hP hsv hls hov hjn hjok hje hbk
          obtain ⟨wo, rfl⟩ : ∃ wo : World, wo = wr := ⟨_, rfl⟩
          go_wp2_with fail
          refine HP.out.mono ?_
          rintro e w3 ⟨rfl, hb3⟩
          have HB3 := Lib.hid hb3
          have d1 := (HBKX.out.below hb3 HBKX.out.lt).cell 1
          simp only [List.getElem?_cons_zero, List.getElem?_cons_succ] at d1
          have hM3 := HM.out.ch (Ch.of_below hb3 (fun _ => False)) (fun c => c)
          obtain ⟨D, hown, h2⟩ := hM3
          have HIM : Hid (IsMap D) := Lib.hid (by obtain ⟨es, c, -, -, -, rfl⟩ := hown; exact ⟨_, rfl⟩)
          have HD2 := Lib.hid h2
          clear h2 hb3 c0 cl co
          go_wp2_with (at_mapUpdate; refine wpList_mapUpdate_own _ rfl _ _ _ 109 rfl 3 3 keyInt Tryz.underlying109 _ w.heap.size k _ rfl hown (by unfold maxLen; omega) _ _ _ rfl rfl (keyOf_int_mk Tryz.underlying3 (wfInt (by omega))) _ [] (plainElem_int Tryz.underlying3 (a := (k : Int)) (wfInt (by omega))) ?_; intro w4 hown4 hgrow4)
          have hch4 : Ch (fun b => b = w.heap.size) wo w4 := (Ch.of_below HB3.out (fun b => b = w.heap.size)).trans (Ch.of_grown hgrow4) (fun b hb e => by simpa using e)
          have HM4 := Lib.hid (TM.put (l := ls[j]) HD2.out HIM.out HJN.out (by rw [hpl]; exact hown4))
          have hT4 := HT.out.keep hch4 (fun b hb e => by have := HNB.out b hb; omega)
          have hput := put_calls ls _ j bt w.heap.size _ w.heap.size _ w4 _ ns hT4 (by have := hch4.size; omega) hj (HBKX.out.ch hch4 (by omega)) (fun hb => by have := HNB.out bt hb; omega) (HLX.out.ch hch4 (fun b hb e => by omega)) (fun b hb hb2 => by have := HNB.out b hb2; omega) HJOK.out (by have := HNL.out; omega) (by rw [hpl]; omega)
          have HCH4 := Lib.hid hch4
          have HPUT := Lib.hid hput
          clear hput hT4 hch4 hown4 hgrow4 hown d1
          refine HPUT.out.mono ?_
          rintro e w5 ⟨rfl, ns', hT5, hch5, hnb5, hnl5⟩
          have HT5 : Hid (Trie w5 w.heap.size (w.heap.size + 1 + 1) (patsOf ls ((sortedS ls).take (k + 1))) ns') := Lib.hid (by rw [HPO.out]; exact hT5)
          have HM5 : Hid (TM w5 w.heap.size (k + 1) (patsOf ls ((sortedS ls).take (k + 1)))) := Lib.hid (by rw [HPO.out]; exact HM4.out.ch hch5 (fun hb => by have := HNB.out _ hb; omega))
          have HN5 : Hid (ns'.length ≤ 1 + 8 * (k + 1)) := Lib.hid (by have := HNL.out; omega)
          have HNB5 : Hid (∀ q ∈ ns'.flatMap TN.blocks, q = w.heap.size + 1 ∨ q = w.heap.size + 1 + 1 ∨ w2.heap.size ≤ q) := Lib.hid (fun q hq => by
            rcases hnb5 q hq with h | h
            · exact HNB.out q h
            · have := HCH4.out.size
              omega)
          have HC5 : Hid (Ch (fun b => b = w.heap.size ∨ b = w.heap.size + 1 ∨ b = w.heap.size + 1 + 1) w2 w5) := Lib.hid ((HC.out.trans HCH4.out (fun b _ e => .inl e)).trans hch5 (fun b hb hb2 => by
            rcases HNB.out b hb2 with h | h | h
            · exact .inr (.inl h)
            · exact .inr (.inr h)
            · omega))
          clear hT5 hch5 hnb5 hnl5
          go_wp2
          go_roundw
          case rel => exact ⟨k + 1, ns', by go_num, by omega, HT5, HN5, HM5, HNB5, HC5⟩
          case measure => simp [intOf]; omega
        · obtain rfl : k = ls.length := by omega
          have htk : (sortedS ls).take ls.length = sortedS ls := List.take_of_length_le (by omega)
          have HTF : Hid (Trie wr w.heap.size (w.heap.size + 1 + 1) (patsOf ls (sortedS ls)) ns) := Lib.hid (by have := HT.out; rw [htk] at this; exact this)
          have HMF : Hid (TM wr w.heap.size ls.length (patsOf ls (sortedS ls))) := Lib.hid (by have := HM.out; rw [htk] at this; exact this)
          have HBF := Lib.hid (HBK2.out.ch HC.out (fun e => by omega))
          have HLF : Hid (Sl (eSl eSeg) wr (fun b => w.heap.size ≤ b) (.slice A0 ls.length cap0) ls) := Lib.hid ((HLS.out.ch HC.out (fun b hb e => by omega)).mono (fun b hb => by omega))
          have HBW : Hid (Below w.heap.size w wr) := Lib.hid (HB2.out.trans (HC.out.below (by omega) (fun b hb e => by omega)))
          clear htk HT HM
          go_wp2
          go_ret
          exact ⟨bt, w.heap.size, _, _, _, ns, rfl, HBF.out, HTF.out, HMF.out, HLF.out, HBW.out⟩
end Go.Proofs.YtejbkjndipineaaGreatDoor
