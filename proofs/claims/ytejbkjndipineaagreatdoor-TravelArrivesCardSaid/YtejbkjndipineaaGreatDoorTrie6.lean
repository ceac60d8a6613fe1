/- Walk of trie.put. -/
import Derived.Test.YtejbkjndipineaaGreatDoorTrie3
import Derived.Deep.RegionWith
namespace Go.Proofs.YtejbkjndipineaaGreatDoor
open Go Go.RowKit PR
set_option linter.unusedVariables false
set_option linter.unusedSimpArgs false
set_option maxHeartbeats 400000
set_option maxRecDepth 100000
open Go.Maps

theorem zeroP (w : World) : (zeroValue 110).run Tryz.prog w = .ok (.pointer none) w := by kernel_rfl
theorem node_look {w : World} {pats : List (List Seg × Nat)} {ns : List TN} {x : TN} (h : NodeAt w pats ns x) (s : Seg) (hs : SegOk s) (n : Nat) :
    (Instr.lookup 129 (.map (some x.m)) (.agg #[.int .i64 s.kind, .string s.text]) false).run Tryz.prog (w.drewN n) = .ok (ptrV (childOf ns (x.pre ++ [s]))) (w.drewN n) := by
  obtain ⟨D, h1, h2⟩ := h.map
  have h1' : (w.drewN n).ownsMap Tryz.prog 59 ptrElem x.m ns.length D := h1
  obtain ⟨v, ps, hrun, hv⟩ := h1'.lookup keySeg Tryz.underlying129 (zeroP _) (z := .pointer none) (zd := .nil) (zp := []) rfl (keyOf_seg s hs.1 hs.2)
  obtain ⟨c, rfl, hc⟩ := ptrElem_inv hv
  rw [(h2 s hs).1] at hc
  have := ptrD_inj (Prod.mk.inj hc).1
  rw [this]
  exact hrun

theorem upd_blocks {ns : List TN} {p : List Seg} {ev : Value} {k : Nat} (hk : k ∈ (ns.map (updE p ev)).flatMap TN.blocks) : k ∈ ns.flatMap TN.blocks ∨ ev.ownBlock = some k := by
  obtain ⟨z, hz, hk⟩ := List.mem_flatMap.1 hk
  obtain ⟨y, hy, rfl⟩ := List.mem_map.1 hz
  unfold updE at hk
  split at hk
  · simp [TN.blocks] at hk
    rcases hk with hk | hk | hk
    · exact .inl (flat_mem hy (by simp [TN.blocks, hk]))
    · exact .inl (flat_mem hy (by simp [TN.blocks, hk]))
    · exact .inr hk
  · exact .inl (flat_mem hy hk)

set_option maxHeartbeats 4000000 in
theorem put_calls (ls : List (List Seg)) (lv : Value) (i bt base root mt : Nat) (B : Nat → Prop) (w : World) (pats : List (List Seg × Nat)) (ns : List TN) (h : Trie w base root pats ns) (hb : base ≤ w.heap.size) (hi : i < ls.length)
    (ct : Blk w bt [lv, .map (some mt), .pointer (some ⟨root, 0, none⟩)] 113) (hbt : bt ∉ ns.flatMap TN.blocks) (hl : Sl (eSl eSeg) w B lv ls) (hB : ∀ b, B b → b ∉ ns.flatMap TN.blocks)
    (hok : ∀ s ∈ ls[i], SegOk s) (hlen : ns.length + ls[i].length < 65536) (hpl : pats.length < 65536) :
    Calls Tryz.prog 53 #[.pointer (some ⟨bt, 0, none⟩), .int .i64 (i : Int)] w fun e w' => e = .returned (.tuple #[]) ∧ ∃ ns', Trie w' base root (pats ++ [(ls[i], i)]) ns' ∧ Ch (fun b => b ∈ ns.flatMap TN.blocks) w w' ∧ (∀ k ∈ ns'.flatMap TN.blocks, k ∈ ns.flatMap TN.blocks ∨ w.heap.size ≤ k) ∧ ns'.length ≤ ns.length + ls[i].length := by
  obtain ⟨A, cap, rfl, hcap, hmax, -⟩ := hl.form
  unfold maxLen at hmax
  obtain ⟨bl, ol, sv, rfl, -, -, cl, hsv⟩ := hl.sl_at i hi
  obtain ⟨x0, hx0, hp0, hr0⟩ := h.root
  have HX0 := Lib.hid (show x0 ∈ ns ∧ x0.pre = [] ∧ x0.b = root from ⟨hx0, hp0, hr0⟩)
  have HOK := Lib.hid hok
  have HT := Lib.hid h
  have HB := Lib.hid hB
  generalize ls[i] = l at *
  obtain ⟨As, caps, rfl, hcs, hms, -⟩ := hsv.form
  unfold maxLen at hms
  have c0 := ct.cell 0
  have c1 := ct.cell 1
  have c2 := ct.cell 2
  simp only [List.getElem?_cons_zero, List.getElem?_cons_succ] at c0 c1 c2
  clear hok h hB hx0 hp0 hr0
  go_enter Tryz.func53, Tryz.ntmps53
  go_wp2
  go_loopw [4, 19] (fun nv iv wr => ∃ (k : Nat) (b : Nat), iv = .int .i64 k ∧ k ≤ l.length ∧ nv = .pointer (some ⟨b, 0, none⟩) ∧ Hid (∃ nsj x, x ∈ nsj ∧ x.pre = l.take k ∧ x.b = b ∧ Trie wr base root pats nsj ∧ (∀ k ∈ nsj.flatMap TN.blocks, k ∈ ns.flatMap TN.blocks ∨ w.heap.size ≤ k) ∧ nsj.length ≤ ns.length + k) ∧ Hid (Ch (fun b => b ∈ ns.flatMap TN.blocks) w wr)) (fun _ iv _ => l.length - (intOf iv).toNat)
  case atStart => exact ⟨0, root, rfl, by omega, rfl, Lib.hid ⟨ns, x0, HX0.out.1, by rw [HX0.out.2.1]; rfl, HX0.out.2.2, HT.out, fun k hk => .inl hk, by omega⟩, Lib.hid (Ch.refl _ _)⟩
  case round =>
    obtain ⟨k, b, rfl, hk, rfl, HJ, HC⟩ := hrel
    by_cases hlt : k < l.length
    · obtain ⟨b2, o2, rfl, hB2, -, d0, d1, hm⟩ := hsv.seg_at k hlt
      replace d0 := HC.out.cell d0 (HB.out b2 hB2)
      replace d1 := HC.out.cell d1 (HB.out b2 hB2)
      have hsok := HOK.out l[k] (List.getElem_mem hlt)
      have HTK := Lib.hid (List.take_succ_eq_append_getElem hlt)
      generalize l[k] = s at *
      obtain ⟨sk, st⟩ := s
      simp only at d0 d1 hm
      obtain ⟨nsj, x, hx, hxp, hxb, hT, hnb, hnl⟩ := HJ.out
      subst hxb
      obtain ⟨wo, rfl⟩ : ∃ wo : World, wo = wr := ⟨_, rfl⟩
      have hal : Below wo.heap.size wo (wo.alloc (.cells #[.int .i64 sk, .string st] 59)) := below_alloc (Below.refl _ _) (Nat.le_refl _) _
      have hTa := hT.below hal
      have hnode := hTa.node x hx
      have hlook := node_look hnode ⟨sk, st⟩ hsok
      have n0 := hnode.blk.cell 0
      simp only [List.getElem?_cons_zero, List.getElem?_cons_succ] at n0
      have HXP := Lib.hid hxp
      clear hxp
      cases hc : childOf nsj (x.pre ++ [⟨sk, st⟩]) with
      | some c =>
        rw [hc] at hlook
        simp only [ptrV] at hlook
        have HCH := Lib.hid hc
        clear hc
        go_wp2
        go_quiet (fail)
        go_wp2
        go_quiet (fail)
        go_wp2
        go_roundw
        case rel =>
          obtain ⟨y, hy, hyp, hyb⟩ := childOf_some HCH.out
          exact ⟨k + 1, c, by go_num, by omega, rfl, Lib.hid ⟨nsj, y, hy, by rw [hyp, HXP.out]; exact HTK.out.symm, hyb, hTa.keep ((Ch.refl (fun _ => False) _).drewN _) (fun _ _ c => c), hnb, by omega⟩, Lib.hid ((HC.out.alloc _).drewN _)⟩
        case measure => simp [intOf]; omega
      | none =>
        rw [hc] at hlook
        simp only [ptrV] at hlook
        have HCN := Lib.hid hc
        have HNODE := Lib.hid hnode
        clear hc
        go_wp2
        go_quiet (fail)
        go_wp2
        rename_i nq1
        generalize hwc : (wo.alloc (.cells #[.int .i64 sk, .string st] 59)).drewN _ = wc at *
        have e0 : wc.cell? ⟨wo.heap.size, 0, none⟩ = some (.int .i64 sk) := by rw [← hwc]; exact (Blk.new wo [.int .i64 sk, .string st] 59).cell 0
        have e1 : wc.cell? ⟨wo.heap.size, 1, none⟩ = some (.string st) := by rw [← hwc]; exact (Blk.new wo [.int .i64 sk, .string st] 59).cell 1
        have n0' : wc.cell? ⟨x.b, 0, none⟩ = some (.map (some x.m)) := by rw [← hwc]; exact n0
        have HWC := Lib.hid hwc
        have hTc : Trie wc base root pats nsj := by rw [← hwc]; exact hTa.keep ((Ch.refl (fun _ => False) _).drewN _) (fun _ _ c => c)
        obtain ⟨D, hD1, hD2⟩ := (hTc.node x hx).map
        have hw1 : Below wc.heap.size wc ((wc.alloc (.map #[] 0)).alloc (.cells #[.map (some wc.heap.size), .slice none 0 0] 131)).drew := Below.drew (below_alloc (below_alloc (Below.refl _ _) (Nat.le_refl _) _) (Nat.le_refl _) _)
        have hownW := ownsMap_ch hD1 (Ch.of_below hw1 (fun _ => False)) (fun c => c)
        obtain ⟨w5, hrun5, hown5, hg5⟩ := hownW.update keySeg Tryz.underlying129 (by unfold maxLen; omega) (keyOf_seg ⟨sk, st⟩ hsok.1 hsok.2) (ptrElem_mk (some (wc.heap.size + 1)))
        simp only [ptrV, segV] at hrun5
        have hz1 : wo.heap.size < wc.heap.size := World.block_lt_of_cell? wc _ e0
        have hz2 : x.b < wc.heap.size := World.block_lt_of_cell? wc _ n0'
        have e0' : ((wc.alloc (.map #[] 0)).alloc (.cells #[.map (some wc.heap.size), .slice none 0 0] 131)).cell? ⟨wo.heap.size, 0, none⟩ = some (.int .i64 sk) := below_cell (below_alloc (below_alloc (Below.refl _ _) (Nat.le_refl _) _) (Nat.le_refl _) _) e0
        have e1' : ((wc.alloc (.map #[] 0)).alloc (.cells #[.map (some wc.heap.size), .slice none 0 0] 131)).cell? ⟨wo.heap.size, 1, none⟩ = some (.string st) := below_cell (below_alloc (below_alloc (Below.refl _ _) (Nat.le_refl _) _) (Nat.le_refl _) _) e1
        have n0'' : ((wc.alloc (.map #[] 0)).alloc (.cells #[.map (some wc.heap.size), .slice none 0 0] 131)).cell? ⟨x.b, 0, none⟩ = some (.map (some x.m)) := below_cell (below_alloc (below_alloc (Below.refl _ _) (Nat.le_refl _) _) (Nat.le_refl _) _) n0'
        have hblN : Blk ((wc.alloc (.map #[] 0)).alloc (.cells #[.map (some wc.heap.size), .slice none 0 0] 131)).drew (wc.heap.size + 1) [.map (some wc.heap.size), .slice none 0 0] 131 := by
          have := Blk.new (wc.alloc (.map #[] 0)) [.map (some wc.heap.size), .slice none 0 0] 131
          rw [show (wc.alloc (.map #[] 0)).heap.size = wc.heap.size + 1 by simp] at this
          exact this
        have hmpN : ((wc.alloc (.map #[] 0)).alloc (.cells #[.map (some wc.heap.size), .slice none 0 0] 131)).drew.ownsMap Tryz.prog 59 ptrElem wc.heap.size 0 (.map []) := (World.ownsMap_made wc _ _ _).alloc _
        have hwoc : wo.heap.size ≤ wc.heap.size := by omega
        have hDM : IsMap D := by
          obtain ⟨es, c, -, -, -, rfl⟩ := hD1
          exact ⟨_, rfl⟩
        have hT5 := trie_add hTc hx hsok HCN.out (by have := HC.out.size; omega) hw1 hblN hmpN (by omega) (Nat.le_refl _) (by omega) hD2 hDM hown5 hg5
        have hN5 := hT5.node x (List.mem_append_left _ hx)
        have hlook5 := node_look hN5 ⟨sk, st⟩ hsok
        rw [show childOf (nsj ++ [(⟨x.pre ++ [⟨sk, st⟩], wc.heap.size + 1, wc.heap.size, .slice none 0 0⟩ : TN)]) (x.pre ++ [⟨sk, st⟩]) = some (wc.heap.size + 1) from childOf_app_new (y := ⟨x.pre ++ [⟨sk, st⟩], wc.heap.size + 1, wc.heap.size, .slice none 0 0⟩) HCN.out] at hlook5
        simp only [ptrV] at hlook5
        have n05 := hN5.blk.cell 0
        simp only [List.getElem?_cons_zero, List.getElem?_cons_succ] at n05
        have hxmo : x.m < wo.heap.size := (hT.node x hx).lt x.m (by simp [TN.blocks])
        have e05 : w5.cell? ⟨wo.heap.size, 0, none⟩ = some (.int .i64 sk) := (Ch.of_grown hg5).cell e0' (fun e => by simp at e; omega)
        have e15 : w5.cell? ⟨wo.heap.size, 1, none⟩ = some (.string st) := (Ch.of_grown hg5).cell e1' (fun e => by simp at e; omega)
        have HT5 := Lib.hid hT5
        have HC5 : Hid (Ch (fun b => b ∈ ns.flatMap TN.blocks) w w5) := by
          have hcw : Ch (fun b => b ∈ ns.flatMap TN.blocks) w wc := by rw [← hwc]; exact (HC.out.alloc _).drewN _
          refine Lib.hid ((hcw.then_below hw1).trans (Ch.of_grown hg5) (fun b hb2 e => ?_))
          have hbm : b = x.m := by simpa using e
          rcases hnb b (flat_mem hx (by simp [TN.blocks, hbm])) with h1 | h1
          · exact h1
          · omega
        have HNB5 : Hid (∀ q ∈ (nsj ++ [(⟨x.pre ++ [⟨sk, st⟩], wc.heap.size + 1, wc.heap.size, .slice none 0 0⟩ : TN)]).flatMap TN.blocks, q ∈ ns.flatMap TN.blocks ∨ w.heap.size ≤ q) := by
          refine Lib.hid (fun q hq => ?_)
          rw [List.flatMap_append] at hq
          rcases List.mem_append.1 hq with hq | hq
          · exact hnb q hq
          · have := HC.out.size
            simp [TN.blocks, Value.ownBlock] at hq
            right
            omega
        clear hT5 hN5 hblN hmpN hDM
        have HH5 := Lib.hid (And.intro hown5 hg5)
        have HD := Lib.hid (And.intro hD1 hD2)
        have HTC := Lib.hid hTc
        have HW1 := Lib.hid hw1
        clear hwc n0 hlook hnode hTa hal hownW hown5 hg5 hD1 hD2 hTc hw1
        go_region_with (first
          | (go_at_call 50; refine (blank_calls _).mono ?_; rintro e wA ⟨rfl, rfl⟩; dsimp only)
          | fail)

        all_goals go_wp2
        all_goals go_quiet (fail)
        all_goals go_wp2
        all_goals go_roundw
        all_goals
          first
          | (simp [intOf]; omega; done)
          | exact ⟨k + 1, wc.heap.size + 1, by go_num, by omega, rfl, Lib.hid ⟨_, _, List.mem_append_right _ (List.mem_singleton.2 rfl), by rw [HTK.out, HXP.out], rfl, HT5.out.keep ((Ch.refl (fun _ => False) _).drewN _) (fun _ _ c => c), HNB5.out, by simp; omega⟩, Lib.hid (HC5.out.drewN _)⟩
    · obtain rfl : k = l.length := by omega
      obtain ⟨nsj, x, hx, hxp, hxb, hT, hnb, hnl⟩ := HJ.out
      subst hxb
      have hnode := hT.node x hx
      have n1 := hnode.blk.cell 1
      have f1 := hnode.blk.frozen 1
      have nb := hnode.blk
      simp only [List.getElem?_cons_zero, List.getElem?_cons_succ] at n1
      have hends := hnode.ends
      have hxl : x.pre = l := by rw [hxp, List.take_length]
      have HE := Lib.hid (show endsOf pats x.pre = endsOf pats l by rw [hxl])
      have HXL := Lib.hid hxl
      have hel : (endsOf pats x.pre).length ≤ pats.length := by unfold endsOf; rw [List.length_map]; exact List.length_filter_le _ _
      clear hxp hxl
      generalize hacc : endsOf pats x.pre = acc at *
      have HACC := Lib.hid hacc
      clear hacc
      obtain ⟨Ae, cape, hxe, hce, hme⟩ := hends.form
      have HXE := Lib.hid hxe
      rw [hxe] at hends n1
      clear hxe
      unfold maxLen at hme
      obtain ⟨wo, rfl⟩ : ∃ wo : World, wo = wr := ⟨_, rfl⟩
      go_wp2_with (at_builtin; refine wp_app (eInt .i64) rfl (.tmp 47) (.tmp 49) 22 3 rfl Tryz.underlying22 (.int .i64 0) 8 infoInt rfl (by decide) (fun _ => False) _ acc rfl ?own _ [(i : Int)] rfl ?src ?c3 ?c4 ?_)
      case own => exact (hends.below (below_alloc (Below.refl _ _) (Nat.le_refl _) _)).plain (fun _ c => c.1)
      case src => exact one_new (eInt .i64) wo (fun _ => False) (i : Int) _ 3 rfl (fun b c => False.elim c)
      case c3 => unfold maxLen; show acc.length + 1 ≤ _; omega
      case c4 => show (acc.length + 1) * 8 ≤ _; omega
      intro v' w' hown' hg' hv'
      obtain ⟨Av, capv, hve, -, -⟩ := hown'.form
      have hxn := blocks_nodup hT.nodup hx
      have hne : ¬ ((Value.slice Ae acc.length cape).ownBlock = some x.b) := by
        rw [← HXE.out]
        intro e
        simp [TN.blocks, e] at hxn
      have nb' : Blk w' x.b [.map (some x.m), x.e] 131 := (nb.alloc _).ch (Ch.of_grown hg') (fun e => hne e.symm)
      have m1 := nb'.cell 1
      have f1' := nb'.frozen 1
      simp only [List.getElem?_cons_zero, List.getElem?_cons_succ] at m1
      rw [HXE.out] at m1
      have hal : Below wo.heap.size wo (wo.alloc (.cells #[.int .i64 (i : Int)] 3)) := below_alloc (Below.refl _ _) (Nat.le_refl _) _
      have hws := HC.out.size
      have HEND := Lib.hid (trie_end (i := i) (ev := v') hT hx (Nat.le_trans hb hws) hal (by rw [HACC.out]; exact hown') (by rw [HXE.out]; exact hg') (by rw [HXE.out]; simpa using hv'))
      have HCF : Hid (Ch (fun b => b ∈ ns.flatMap TN.blocks) w (w'.setCell ⟨x.b, 1, none⟩ v')) := by
        refine Lib.hid ?_
        refine ((HC.out.alloc _).trans (Ch.of_grown hg') (fun b hb2 e => ?_)).setCell _ _ (fun hb2 => ?_)
        · rcases hnb b (flat_mem hx (by rw [← HXE.out] at e; simp [TN.blocks, ← e])) with h1 | h1
          · exact h1
          · omega
        · rcases hnb x.b (flat_mem hx (by simp [TN.blocks])) with h1 | h1
          · exact h1
          · simp only at hb2
            omega
      have HNB : Hid (∀ k ∈ (nsj.map (updE x.pre v')).flatMap TN.blocks, k ∈ ns.flatMap TN.blocks ∨ w.heap.size ≤ k) := by
        refine Lib.hid (fun k hk => ?_)
        rcases upd_blocks hk with h1 | h1
        · exact hnb k h1
        · rcases hv' with h2 | h2
          · rw [h2] at h1
            rw [← HXE.out] at h1
            exact hnb k (flat_mem hx (by simp [TN.blocks, h1]))
          · have := h2 k h1
            right
            omega
      have HLN : Hid ((nsj.map (updE x.pre v')).length ≤ ns.length + l.length) := Lib.hid (by rw [List.length_map]; exact hnl)
      rw [HXL.out] at HEND HNB HLN
      clear hown' hg' hv' hends hxn hal hT hnode n1 f1 nb nb' hne
      rw [List.length_append, List.length_singleton] at hve
      subst hve
      go_wp2
      go_end0
      exact ⟨rfl, _, HEND.out, HCF.out, HNB.out, HLN.out⟩
end Go.Proofs.YtejbkjndipineaaGreatDoor
