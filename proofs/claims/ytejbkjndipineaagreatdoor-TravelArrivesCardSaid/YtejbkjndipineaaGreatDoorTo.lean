/- The walk of porticokeep.To: the text of a URL that a record's pattern has. -/
import Derived.Test.YtejbkjndipineaaGreatDoorKeep
namespace Go.Proofs.YtejbkjndipineaaGreatDoor
open Go Go.RowKit PR
set_option linter.unusedVariables false
set_option linter.unusedSimpArgs false
set_option maxHeartbeats 400000
set_option maxRecDepth 100000

/-- A record's parents, and it, ahead of a list. -/
def upS (ps : List Int) (k : Int) (acc : List Int) : List Int :=
  if h : 0 ≤ k ∧ ps.getD k.toNat (-1) < k then upS ps (ps.getD k.toNat (-1)) (k :: acc) else if 0 ≤ k then k :: acc else acc
termination_by (k + 1).toNat
decreasing_by omega

/-- Records that a law's input makes: few, each below an earlier one, with short texts. -/
structure Small (rs : List Record) : Prop where
  pos : 1 ≤ rs.length
  len : rs.length ≤ 64
  par : ∀ i (h : i < rs.length), -1 ≤ rs[i].parent ∧ rs[i].parent < i
  segs : ∀ i (h : i < rs.length), rs[i].segs.length ≤ 8
  text : ∀ i (h : i < rs.length), ∀ s ∈ rs[i].segs, s.text.size ≤ 64

def toWords : List ByteArray := [⟨#[97]⟩, ⟨#[98]⟩, ⟨#[55]⟩, ⟨#[122, 122]⟩]
/-- One segment more. -/
def toStep (fill : List Int) (st : ByteArray × Nat) (x : Seg) : ByteArray × Nat :=
  (st.1 ++ ⟨#[47]⟩ ++ (if x.kind = 0 then x.text else toWords.getD (withinS (pickS fill st.2) 0 3).toNat ⟨#[]⟩), st.2 + 1)
def toSegs (rs : List Record) (fill : List Int) (ch : List Int) (st : ByteArray × Nat) : ByteArray × Nat :=
  ch.foldl (fun st k => (rs.getD k.toNat ⟨⟨#[]⟩, 0, [], 0, false, ⟨0, 0, ⟨#[]⟩⟩⟩).segs.foldl (toStep fill) st) st
def toS (rs : List Record) (at_ : Int) (fill : List Int) : ByteArray :=
  let s := (toSegs rs fill (upS (rs.map (·.parent)) (withinS at_ 0 (rs.length - 1)) []) (⟨#[]⟩, 0)).1
  if s.size = 0 then ⟨#[47]⟩ else s

theorem up_parent {rs : List Record} (h : Small rs) (k : Int) (acc : List Int) (h0 : 0 ≤ k) (h1 : k < rs.length) :
    upS (rs.map (·.parent)) k acc = upS (rs.map (·.parent)) (rs[k.toNat]'(by omega)).parent (k :: acc) := by
  have hp := h.par k.toNat (by omega)
  have e : (rs.map (·.parent)).getD k.toNat (-1) = (rs[k.toNat]'(by omega)).parent := by
    have : k.toNat < rs.length := by omega
    simp [List.getD, this]
  rw [upS, dif_pos ⟨h0, by rw [e]; omega⟩, e]
theorem up_neg (ps : List Int) (acc : List Int) : upS ps (-1) acc = acc := by
  rw [upS, dif_neg (by omega), if_neg (by omega)]

theorem to_calls (rs : List Record) (at_ : Int) (fill : List Int) (u v : Value) (B : Nat → Prop) (w : World) (hr : Sl eRecord w B u rs) (hf : Sl (eInt .i64) w B v fill) (hs : Small rs) :
    Calls Tryz.prog 5 #[u, .int .i64 at_, v] w fun e w' => e = .returned (.string (toS rs at_ fill)) ∧ Below w.heap.size w w' := by
  obtain ⟨A, cap, rfl, hcap, hmax, -⟩ := hr.form
  unfold maxLen at hmax
  have hlen := hs.len
  have hpos := hs.pos
  have hwd := within_bd at_ 0 (rs.length - 1) (by omega)
  go_enter Tryz.func5, Tryz.ntmps5
  go_wp2_with fail
  refine (within_calls at_ 0 (rs.length - 1) _ (by omega) (by omega) (by omega)).mono ?_
  rintro e w1 ⟨rfl, rfl⟩
  obtain ⟨i0, hi0⟩ : ∃ i0, i0 = withinS at_ 0 (rs.length - 1) := ⟨_, rfl⟩
  rw [← hi0] at hwd ⊢
  have HI0 := Lib.hid hi0
  clear hi0
  have hW : Hid (Sl eStr (w.alloc (.cells #[.string ⟨#[97]⟩, .string ⟨#[98]⟩, .string ⟨#[55]⟩, .string ⟨#[122, 122]⟩] 9)) (fun b => b = w.heap.size) (.slice (some ⟨w.heap.size, 0, none⟩) 4 4) toWords) :=
    (Ow.litS 9 w toWords (by decide) (by unfold maxLen; decide) 4 rfl _ rfl).sl (fun b c => c.elim) (fun g hg => by simp [Value.ownBlock] at hg; exact hg.symm)
  have hz0 : Below w.heap.size w (w.alloc (.cells #[.string ⟨#[97]⟩, .string ⟨#[98]⟩, .string ⟨#[55]⟩, .string ⟨#[122, 122]⟩] 9)) := below_alloc (Below.refl _ _) (Nat.le_refl _) _
  have hz1 : w.heap.size < (w.alloc (.cells #[.string ⟨#[97]⟩, .string ⟨#[98]⟩, .string ⟨#[55]⟩, .string ⟨#[122, 122]⟩] 9)).heap.size := by simp
  go_wp2_with fail
  generalize hwl : w.alloc (.cells #[.string ⟨#[97]⟩, .string ⟨#[98]⟩, .string ⟨#[55]⟩, .string ⟨#[122, 122]⟩] 9) = wl at hW hz0 hz1
  clear hwl
  go_loopw [10, 11] (fun c k wr => ∃ (q : Int) (acc : List Int), k = .int .i64 q ∧ -1 ≤ q ∧ q < rs.length ∧ Ow (eInt .i64) 3 wr (fun _ => False) c acc ∧ (∀ g, c.ownBlock = some g → w.heap.size < g) ∧ Below w.heap.size w wr ∧ Below (w.heap.size + 1) wl wr ∧ w.heap.size < wr.heap.size ∧
      Hid (upS (rs.map (·.parent)) q acc = upS (rs.map (·.parent)) i0 []) ∧ (acc.length : Int) + q ≤ rs.length ∧ ∀ x ∈ acc, 0 ≤ x ∧ x < rs.length) (fun _ k _ => (intOf k + 1).toNat)
  case atStart => exact ⟨i0, [], rfl, by omega, by omega, Ow.nil _ _ _ _, by simp [Value.ownBlock], hz0, Below.refl _ _, hz1, Lib.hid rfl, by simp; omega, by simp⟩
  case round =>
    obtain ⟨q, acc, rfl, hq0, hq1, hown, hg0, hB, hB1, hsz, hS, hacc, hmem⟩ := hrel
    by_cases hlt : 0 ≤ q
    · have hS' := hS.out
      rw [up_parent hs q acc hlt hq1] at hS'
      have hpar := hs.par q.toNat (by omega)
      obtain ⟨b, off, sv, rfl, _, hb, _, _, c1, _⟩ := hr.record_at q.toNat (by omega)
      have HS := Lib.hid hS'
      clear hS hS'
      generalize (rs[q.toNat]'(by omega)).parent = q' at HS hpar c1
      replace c1 := below_cell hB c1
      obtain ⟨A0, cap0, rfl, hc0, hm0⟩ := hown.form
      go_wp2_with (at_builtin; refine wp_app (eInt .i64) rfl (.tmp 33) (.tmp 34) 22 3 rfl Tryz.underlying22 (.int .i64 0) 8 infoInt rfl (by decide) (fun _ => False) _ [q] rfl ?own _ acc rfl ?src ?c3 ?c4 ?_)
      case own => exact Ow.lit1 (eInt .i64) _ wr _ q _ rfl (fun b c => False.elim c)
      case src => exact ((hown.below (below_alloc (Below.refl _ _) (Nat.le_refl _) _)).plain (fun _ c => c.1)).slp
      case c3 => unfold maxLen; show 1 + acc.length ≤ _; omega
      case c4 => show (1 + acc.length) * 8 ≤ _; omega
      intro v' w' hown' hg' hv'
      have hsz' := hg'.size
      simp only [World.size_alloc] at hsz'
      have hgr : Below (wr.heap.size) wr w' := Below.grown (below_alloc (Below.refl _ _) (Nat.le_refl _) _) hg' (by simp) (by simp [Value.ownBlock])
      have c1' := below_cell hgr c1
      go_wp2
      go_roundw
      case rel =>
        refine ⟨q', q :: acc, rfl, by omega, by omega, hown', fun g hg => ?_, below_then hB (Nat.le_refl _) hgr, below_then hB1 ?_ hgr, by omega, HS, by simp; omega, ?_⟩
        · rcases hv' with hv' | hv'
          · rw [hg] at hv'
            simp [Value.ownBlock] at hv'
            omega
          · have := hv' g hg
            omega
        · omega
        · intro x hx
          rcases List.mem_cons.1 hx with rfl | hx
          · omega
          · exact hmem x hx
      case measure => simp [intOf]; omega
    · have hq : q = -1 := by omega
      subst hq
      have hS' := hS.out
      rw [up_neg] at hS'
      obtain ⟨A1, cap1, rfl, hc1, hm1⟩ := hown.form
      unfold maxLen at hm1
      have hch : Sl (eInt .i64) wr (fun b => True) (.slice A1 acc.length cap1) acc := hown.sl (fun _ c _ => False.elim c) (fun _ _ => trivial)
      have hfin : toS rs at_ fill = if (toSegs rs fill acc (⟨#[]⟩, 0)).1.size = 0 then ⟨#[47]⟩ else (toSegs rs fill acc (⟨#[]⟩, 0)).1 := by
        unfold toS
        rw [← HI0.out, ← hS']
      have HF := Lib.hid hfin
      have hal : acc.length ≤ 65 := by omega
      have hWr : Hid (Sl eStr wr (fun b => b = w.heap.size) (.slice (some ⟨w.heap.size, 0, none⟩) 4 4) toWords) := hW.out.move (fun b hb hl => ⟨hb, hB1.block b (by omega)⟩)
      have hfr : Hid (Sl (eInt .i64) wr B v fill) := hf.below hB
      have hrr : Hid (Sl eRecord wr B (.slice A rs.length cap) rs) := hr.below hB
      clear hS hS' hfin hown hg0 hW hacc hf hr hB1
      generalize hst : toSegs rs fill acc (⟨#[]⟩, 0) = st at HF
      have HST := Lib.hid hst
      clear hst HI0 hz0 hz1 hsz
      obtain ⟨wo, rfl⟩ : ∃ wo : World, wo = wr := ⟨_, rfl⟩
      go_wp2
      go_loopw [9, 12, 38] (fun s n i wq => ∃ (s0 : ByteArray) (n0 i0 : Nat), s = .string s0 ∧ n = .int .i64 n0 ∧ i = .int .i64 i0 ∧ i0 ≤ acc.length ∧ n0 ≤ 8 * i0 ∧ s0.size ≤ 100 * n0 ∧ Below wo.heap.size wo wq ∧ Hid (toSegs rs fill (acc.drop i0) (s0, n0) = st)) (fun _ _ i _ => acc.length - (intOf i).toNat)
      case atStart => exact ⟨⟨#[]⟩, 0, 0, rfl, rfl, rfl, by omega, by omega, by show (0 : Nat) ≤ _; omega, Below.refl _ _, HST⟩
      case round =>
        obtain ⟨s0, n0, i1, rfl, rfl, rfl, hi, hn0, hs0, hBq, hT⟩ := hrel
        clear HST
        by_cases hlt2 : i1 < acc.length
        · obtain ⟨b1, off1, rfl, _, _, cc⟩ := hch.int_at i1 hlt2
          have hk := hmem acc[i1] (List.getElem_mem hlt2)
          have hT' := hT.out
          rw [List.drop_eq_getElem_cons hlt2] at hT'
          unfold toSegs at hT'
          rw [List.foldl_cons] at hT'
          generalize acc[i1] = k at cc hk hT'
          have hkl : k.toNat < rs.length := by omega
          have eg : rs.getD k.toNat ⟨⟨#[]⟩, 0, [], 0, false, ⟨0, 0, ⟨#[]⟩⟩⟩ = rs[k.toNat] := by simp [List.getD, hkl]
          rw [eg] at hT'
          obtain ⟨b, off, sv, rfl, _, hb, hsl, _, _, c2, _⟩ := hrr.out.record_at k.toNat hkl
          have hsg := hs.segs k.toNat hkl
          have htx := hs.text k.toNat hkl
          generalize rs[k.toNat].segs = sg at hT' hsl hsg htx
          have HT := Lib.hid hT'
          clear hT hT' eg
          obtain ⟨A2, cap2, rfl, hc2, hm2, -⟩ := hsl.form
          unfold maxLen at hm2
          replace cc := below_cell hBq cc
          replace c2 := below_cell hBq c2
          have hslH := Lib.hid hsl
          clear hsl
          obtain ⟨wq, rfl⟩ : ∃ wq : World, wq = wr := ⟨_, rfl⟩
          go_wp2
          go_loopw [9, 12, 48] (fun s n j wq2 => ∃ (s1 : ByteArray) (n1 j1 : Nat), s = .string s1 ∧ n = .int .i64 n1 ∧ j = .int .i64 j1 ∧ j1 ≤ sg.length ∧ n1 ≤ n0 + j1 ∧ s1.size ≤ 100 * n1 ∧ Below wo.heap.size wo wq2 ∧ Hid ((sg.drop j1).foldl (toStep fill) (s1, n1) = sg.foldl (toStep fill) (s0, n0))) (fun _ _ j _ => sg.length - (intOf j).toNat)
          case atStart => exact ⟨s0, n0, 0, rfl, rfl, rfl, by omega, by omega, hs0, hBq, Lib.hid rfl⟩
          case round =>
            obtain ⟨s1, n1, j1, rfl, rfl, rfl, hj, hn1, hs1, hBq2, hT2⟩ := hrel
            by_cases hlt3 : j1 < sg.length
            · obtain ⟨b2, off2, rfl, _, _, d0, d1, _⟩ := (hslH.out.below hBq2).seg_at j1 hlt3
              have htx1 := htx sg[j1] (List.getElem_mem hlt3)
              have hT' := hT2.out
              rw [List.drop_eq_getElem_cons hlt3, List.foldl_cons] at hT'
              generalize sg[j1] = x at d0 d1 htx1 hT'
              obtain ⟨kx, tx⟩ := x
              simp only at d0 d1 htx1
              by_cases hst : kx = 0
              · have hk1 : (kx != 0) = false := by simp [hst]
                have e1 : toStep fill (s1, n1) ⟨kx, tx⟩ = (s1 ++ ⟨#[47]⟩ ++ tx, n1 + 1) := by simp [toStep, hst]
                rw [e1] at hT'
                have HT2 := Lib.hid hT'
                clear hT2 hT' e1 hst
                go_wp2
                go_roundw
                case rel => exact ⟨s1 ++ ⟨#[47]⟩ ++ tx, n1 + 1, j1 + 1, rfl, by go_num, by go_num, by omega, by omega, by simp [ByteArray.size_append]; show s1.size + 1 + _ ≤ _; omega, by (repeat (first | assumption | exact Below.refl _ _ | apply Below.drew | apply below_drewN | refine below_alloc ?_ (Nat.le_refl _) _ | refine below_then ?_ (Nat.le_refl _) (by assumption))), HT2⟩
                case measure => simp [intOf]; omega
              · have hk1 : (kx != 0) = true := by simp [hst]
                have e1 : toStep fill (s1, n1) ⟨kx, tx⟩ = (s1 ++ ⟨#[47]⟩ ++ toWords.getD (withinS (pickS fill n1) 0 3).toNat ⟨#[]⟩, n1 + 1) := by simp [toStep, hst]
                rw [e1] at hT'
                have HT2 := Lib.hid hT'
                have hwd3 := within_bd (pickS fill n1) 0 3 (by omega)
                obtain ⟨b3, off3, ee, -, hb3, cw, -⟩ := (hWr.out.below hBq2).str_at (withinS (pickS fill n1) 0 3).toNat (by show _ < 4; omega)
                cases ee
                have ew : toWords.getD (withinS (pickS fill n1) 0 3).toNat ⟨#[]⟩ = toWords[(withinS (pickS fill n1) 0 3).toNat]'(by show _ < 4; omega) := by
                  have : (withinS (pickS fill n1) 0 3).toNat < toWords.length := by show _ < 4; omega
                  simp [List.getD, this]
                rw [← ew, Nat.zero_add] at cw
                have hwz : (toWords.getD (withinS (pickS fill n1) 0 3).toNat ⟨#[]⟩).size ≤ 2 := by
                  rw [ew]
                  have : ∀ x ∈ toWords, x.size ≤ 2 := by decide
                  exact this _ (List.getElem_mem _)
                clear hT2 hT' e1 hst ew
                have hfq : Hid (∀ o, Sl (eInt .i64) (wr.alloc o) B v fill) := fun o => hfr.out.below (below_alloc hBq2 (Nat.le_refl _) o)
                go_wp2_with fail
                refine (pick_calls fill n1 v B _ (hfq.out _) (by omega)).mono ?_
                rintro e w5 ⟨rfl, rfl⟩
                go_wp2_with fail
                refine (within_calls (pickS fill n1) 0 3 _ (by omega) (by omega) (by omega)).mono ?_
                rintro e w5 ⟨rfl, rfl⟩
                generalize withinS (pickS fill n1) 0 3 = q at hwd3 cw HT2 hwz
                generalize toWords.getD q.toNat ⟨#[]⟩ = tx2 at cw HT2 hwz
                go_wp2
                go_roundw
                case rel => exact ⟨s1 ++ ⟨#[47]⟩ ++ tx2, n1 + 1, j1 + 1, rfl, by go_num, by go_num, by omega, by omega, by simp [ByteArray.size_append]; show s1.size + 1 + _ ≤ _; omega, by (repeat (first | assumption | exact Below.refl _ _ | apply Below.drew | apply below_drewN | refine below_alloc ?_ (Nat.le_refl _) _ | refine below_then ?_ (Nat.le_refl _) (by assumption))), HT2⟩
                case measure => simp [intOf]; omega
            · have e2 : sg.drop j1 = [] := List.drop_eq_nil_of_le (by omega)
              have hT' := hT2.out
              rw [e2, List.foldl_nil] at hT'
              have hT3 := HT.out
              rw [← hT'] at hT3
              have HT3 := Lib.hid hT3
              clear HT hT3 hT' hT2 e2
              go_wp2
              go_roundw
              case rel => exact ⟨s1, n1, i1 + 1, rfl, rfl, by go_num, by omega, by omega, hs1, hBq2, HT3⟩
              case measure => simp [intOf]; omega
        · have e0 : acc.drop i1 = [] := List.drop_eq_nil_of_le (by omega)
          rw [e0] at hT
          have hT' := hT.out
          unfold toSegs at hT'
          simp only [List.foldl_nil] at hT'
          have hF' := HF.out
          rw [← hT'] at hF'
          simp only at hF'
          have HF2 := Lib.hid hF'
          clear HF hF' hT hT' e0
          by_cases hz : s0.size = 0
          · have hz2 : s0 = ⟨#[]⟩ := by
              obtain ⟨⟨l⟩⟩ := s0
              have : l = [] := List.eq_nil_of_length_eq_zero hz
              rw [this]
            subst hz2
            clear hz
            go_wp2
            go_ret
            exact ⟨by rw [HF2.out]; rfl, by exact below_then hB (Nat.le_refl _) hBq⟩
          · have hz1 : s0.toList ≠ [] := by
              intro h
              apply hz
              rw [ByteArray.toList_eq] at h
              have : s0.data.toList.length = 0 := by rw [h]; rfl
              simpa using this
            have hz2 : (s0.toList == []) = false := beq_eq_false_iff_ne.2 hz1
            have hz3 : s0.toList.isEmpty = false := by
              cases hc : s0.toList with
              | nil => exact absurd hc hz1
              | cons _ _ => rfl
            have hF3 := HF2.out
            rw [if_neg hz] at hF3
            have HF3 := Lib.hid hF3
            clear hF3 HF2 hz hz1
            go_wp2
            go_ret
            exact ⟨by rw [HF3.out]; rfl, by exact below_then hB (Nat.le_refl _) hBq⟩
end Go.Proofs.YtejbkjndipineaaGreatDoor
