/- Walk of trie.all. -/
import Derived.Test.YtejbkjndipineaaGreatDoorTrie7
import Derived.Deep.DeepCutAuto
import Derived.Deep.CutBlock
namespace Go.Proofs.YtejbkjndipineaaGreatDoor
open Go Go.RowKit PR
set_option linter.unusedVariables false
set_option linter.unusedSimpArgs false
set_option maxHeartbeats 400000
set_option maxRecDepth 100000
open Go.Maps

theorem subAt_ends {pats : List (List Seg × Nat)} {pre : List Seg} {s : Seg} {ps : List ByteArray} (h : s.kind = 3 ∨ (s.kind = 2 ∧ ps.length ≤ 1)) : subAt pats pre s ps = endsOf pats (pre ++ [s]) := by
  unfold subAt endsOf
  congr 1
  apply List.filter_congr
  intro q _
  cases hr : restOf (pre ++ [s]) q.1 with
  | none =>
    have := restOf_none hr
    simp only
    symm
    rw [decide_eq_false_iff_not]
    intro e
    exact this (by rw [e]; exact List.prefix_refl _)
  | some t =>
    have he := restOf_some hr
    simp only
    rw [selM.eq_def]
    simp only
    rw [if_pos h]
    cases t with
    | nil => simp [he]
    | cons a t => simp [he]
theorem subAt_skip {pats : List (List Seg × Nat)} {pre : List Seg} {s : Seg} {ps : List ByteArray} (h : ¬ (s.kind = 3 ∨ (s.kind = 2 ∧ ps.length ≤ 1))) (h2 : s.kind = 2 ∨ ps = []) : subAt pats pre s ps = [] := by
  unfold subAt
  rw [List.map_eq_nil_iff, List.filter_eq_nil_iff]
  intro q _
  cases restOf (pre ++ [s]) q.1 with
  | none => simp
  | some t =>
    simp only
    rw [selM.eq_def]
    simp only
    rw [if_neg h]
    rcases h2 with h2 | h2
    · rw [if_pos h2]; simp
    · subst h2
      by_cases h3 : s.kind = 2 <;> simp [h3]
theorem subAt_miss {pats : List (List Seg × Nat)} {pre : List Seg} {s : Seg} {p : ByteArray} {r : List ByteArray} (h : s.kind ≠ 3) (h2 : s.kind ≠ 2) (h1 : s.kind ≠ 1) (ht : s.text ≠ p) : subAt pats pre s (p :: r) = [] := by
  unfold subAt
  rw [List.map_eq_nil_iff, List.filter_eq_nil_iff]
  intro q _
  cases restOf (pre ++ [s]) q.1 with
  | none => simp
  | some t =>
    simp only
    rw [selM.eq_def]
    simp [h, h2, h1, ht]
theorem subAt_go {pats : List (List Seg × Nat)} {pre : List Seg} {s : Seg} {p : ByteArray} {r : List ByteArray} (h : s.kind ≠ 3) (h2 : s.kind ≠ 2) (h1 : s.kind = 1 ∨ s.text = p) : subAt pats pre s (p :: r) = foundAt pats (pre ++ [s]) r := by
  unfold subAt foundAt
  congr 1
  apply List.filter_congr
  intro q _
  cases restOf (pre ++ [s]) q.1 with
  | none => rfl
  | some t =>
    simp only
    rw [selM.eq_def]
    rcases h1 with h1 | h1 <;> simp [h, h2, h1]

theorem foundAt_len (pats : List (List Seg × Nat)) (pre : List Seg) (ps : List ByteArray) : (foundAt pats pre ps).length ≤ pats.length := by unfold foundAt; rw [List.length_map]; exact List.length_filter_le _ _
theorem partAt_len (pats : List (List Seg × Nat)) (pre : List Seg) (left : Lit → Bool) (ps : List ByteArray) : (partAt pats pre left ps).length ≤ pats.length := by unfold partAt; rw [List.length_map]; exact List.length_filter_le _ _
theorem endsOf_len (pats : List (List Seg × Nat)) (pre : List Seg) : (endsOf pats pre).length ≤ pats.length := by unfold endsOf; rw [List.length_map]; exact List.length_filter_le _ _
theorem PR.Sl.plainInt {w : World} {B I : Nat → Prop} {v : Value} {xs : List Int} (h : Sl (eInt .i64) w B v xs) : SlP 1 w (fun _ => True) v xs.length (fun i h cs => (eInt .i64).R w I xs[i] cs) :=
  SlP.move (fun b _ _ => ⟨trivial, rfl⟩) (fun i hi cs hr => hr) h
theorem ownsMap_has {w : World} {pats : List (List Seg × Nat)} {ns : List TN} {x : TN} {base root : Nat} (h : Trie w base root pats ns) (hx : x ∈ ns) {D : DataW Unit} (hD : ∀ s, SegOk s → D.atKey (segL s) .nil = ptrD (childOf ns (x.pre ++ [s])) ∧ Maps.has D (segL s) = (childOf ns (x.pre ++ [s])).isSome)
    (hok : ∀ q ∈ pats, ∀ y ∈ q.1, SegOk y) : ∀ q ∈ pats, ∀ s t, q.1 = x.pre ++ s :: t → Maps.has D (segL s) = true := by
  intro q hq s t he
  have hs : SegOk s := hok q hq s (by rw [he]; simp)
  rw [(hD s hs).2]
  obtain ⟨y, hy, hye⟩ := h.reach q hq (x.pre ++ [s]) (by rw [he]; exact ⟨t, by simp⟩)
  rw [← hye, childOf_mem h.pres hy]
  rfl

def AllC (base root : Nat) (pats : List (List Seg × Nat)) (ns : List TN) (ps : List ByteArray) : Prop :=
  ∀ (x : TN) (v : Value) (B : Nat → Prop) (w : World), Trie w base root pats ns → x ∈ ns → Sl eStr w B v ps →
    Calls Tryz.prog 71 #[.pointer (some ⟨x.b, 0, none⟩), v] w fun e w' => ∃ r out, e = .returned r ∧ Ow (eInt .i64) 3 w' (fun _ => False) r out ∧ (∀ g, r.ownBlock = some g → w.heap.size ≤ g) ∧ out.Perm (foundAt pats x.pre ps) ∧ Below w.heap.size w w'

theorem ranges_ch {P : Program} {k : TypeId} {R : Value → Option (DataW Unit × List MemPlace)} {b r n cnt : Nat} {D : DataW Unit} {left : Lit → Bool} {S : Nat → Prop} {w w' : World} (h : w.ranges P k R b r n D left cnt) (hc : Ch S w w') (hb : ¬ S b) (hr : ¬ S r) : w'.ranges P k R b r n D left cnt := by
  obtain ⟨es, clock, since, seen, c0, h1, F, hs, hD, h2, rest⟩ := h
  exact ⟨es, clock, since, seen, c0, hc.at_ h1 hb, F, hs, hD, hc.at_ h2 hr, rest⟩
theorem all_kid {w : World} {pats : List (List Seg × Nat)} {ns : List TN} {x : TN} {base root : Nat} (h : Trie w base root pats ns) {D : DataW Unit} (hm : IsMap D) (hD : ∀ s, SegOk s → D.atKey (segL s) .nil = ptrD (childOf ns (x.pre ++ [s])) ∧ Maps.has D (segL s) = (childOf ns (x.pre ++ [s])).isSome)
    {s : Seg} (hs : SegOk s) {c : Option Nat} (hat : ∀ zd, D.atKey (segL s) zd = ptrD c) : ∃ y ∈ ns, y.pre = x.pre ++ [s] ∧ c = some y.b := by
  have h1 := Maps.has_true_of_atKey hat
  have h2 := hat .nil
  rw [(hD s hs).1] at h2
  rw [(hD s hs).2] at h1
  have h3 := ptrD_inj h2
  cases hc : childOf ns (x.pre ++ [s]) with
  | none => rw [hc] at h1; cases h1
  | some b =>
    obtain ⟨y, hy, hye, hyb⟩ := childOf_some hc
    exact ⟨y, hy, hye, by rw [← h3, hc, hyb]⟩

set_option maxHeartbeats 4000000 in
theorem all_step (base root : Nat) (pats : List (List Seg × Nat)) (ns : List TN) (hok : ∀ q ∈ pats, ∀ y ∈ q.1, SegOk y) (hpl : pats.length < 65536) (ps : List ByteArray) (ih : ∀ p r, ps = p :: r → AllC base root pats ns r) : AllC base root pats ns ps := by
  intro x v B w hT hx hps
  obtain ⟨A, cap, rfl, hcap, hmax, -⟩ := hps.form
  unfold maxLen at hmax
  have hnode := hT.node x hx
  have n0 := hnode.blk.cell 0
  have n1 := hnode.blk.cell 1
  simp only [List.getElem?_cons_zero, List.getElem?_cons_succ] at n0 n1
  obtain ⟨D, hD1, hD2⟩ := hnode.map
  have hHas := ownsMap_has hT hx hD2 hok
  have HST := Lib.hid (partAt_start pats x.pre (Maps.has D) ps hHas)
  have HT := Lib.hid hT
  have HIH := Lib.hid ih
  have HD2 := Lib.hid hD2
  have HOK := Lib.hid hok
  have HPSl := Lib.hid hps
  have HB0 : Hid (Below w.heap.size w w) := Lib.hid (Below.refl _ _)
  have hel := endsOf_len pats x.pre
  have hends := hnode.ends
  have hxm : x.m < w.heap.size := hT.lt x.m (flat_mem hx (by simp [TN.blocks]))
  obtain ⟨Ae, cape, hxe, hce, hme⟩ := hends.form
  have HXE := Lib.hid hxe
  rw [hxe] at n1 hends
  have HEnds := Lib.hid hends
  clear ih hD2 hok hHas hT hnode hxe hends hps
  go_enter Tryz.func71, Tryz.ntmps71
  go_upto_if 10 with fail
  go_cut [5] (fun ov wx => Hid (Ow (eInt .i64) 3 wx (fun _ => False) ov (partAt pats x.pre (Maps.has D) ps)) ∧ Hid (∀ g, ov.ownBlock = some g → w.heap.size ≤ g) ∧ Below w.heap.size w wx)
  case first =>
    cases ps with
    | nil =>
      have HST2 := Lib.hid (show partAt pats x.pre (Maps.has D) [] = endsOf pats x.pre from HST.out)
      clear HST
      go_wp2_with (at_builtin; refine wp_app (eInt .i64) rfl (.tmp 11) (.tmp 15) 22 3 rfl Tryz.underlying22 (.int .i64 0) 8 infoInt rfl (by decide) (fun _ => False) _ [] rfl ?own _ (endsOf pats x.pre) rfl ?src ?c3 ?c4 ?_)
      case own => exact Ow.nil _ _ _ _
      case src => exact (HEnds.out.sl (B := fun _ => True) (fun _ _ _ => trivial) (fun _ _ => trivial)).plainInt
      case c3 => unfold maxLen; simp; omega
      case c4 => simp; omega
      intro v' w' hown' hg' hv'
      have hBn : Below w.heap.size w w' := below_grown HB0.out (Nat.le_refl _) hg' (fun g hg => by simp [Value.ownBlock] at hg)
      have HO : Hid (Ow (eInt .i64) 3 w' (fun _ => False) v' (partAt pats x.pre (Maps.has D) [])) := Lib.hid (by rw [HST2.out]; exact hown'.plain (fun _ c => by first | exact c | exact c.1))
      have HG : Hid (∀ g, v'.ownBlock = some g → w.heap.size ≤ g) := Lib.hid (fun g hg => by
        rcases hv' with hv | hv
        · rw [hv] at hg; simp [Value.ownBlock] at hg
        · exact hv g hg)
      clear hown' hg' hv'
      try intro _
      go_wp2
      go_meet
      case rel => exact ⟨HO, HG, hBn⟩
    | cons p r =>
      have hlp : 1 ≤ (p :: r).length := by simp
      have HO : Hid (Ow (eInt .i64) 3 w (fun _ => False) (.slice none 0 0) (partAt pats x.pre (Maps.has D) (p :: r))) := Lib.hid (by rw [HST.out]; exact Ow.nil _ _ _ _)
      have HG : Hid (∀ g, (Value.slice none 0 0).ownBlock = some g → w.heap.size ≤ g) := Lib.hid (fun g hg => by simp [Value.ownBlock] at hg)
      clear HIH HPSl HST
      generalize (p :: r).length = n at *
      have hz : ((n : Int) == 0) = false := by simp; omega
      go_wp2
      go_meet
      case rel => exact ⟨HO, HG, HB0.out⟩
  case rest =>
    obtain ⟨HO, HG, hB⟩ := hcut
    have HDM : Hid (IsMap D) := Lib.hid (by obtain ⟨es, c, -, -, -, rfl⟩ := hD1; exact ⟨_, rfl⟩)
    have hD1c := ownsMap_ch hD1 (Ch.of_below hB (fun _ => False)) (fun c => c)
    have m0 := below_cell hB n0
    have hwz := hB.size
    clear hD1 HEnds n0 n1 hel HST HXE hce hme HB0
    go_wp2_with (first
      | (at_range; refine wpList_range_own _ rfl _ 129 rfl 59 110 keySeg Tryz.underlying129 ptrElem x.m ns.length D rfl hD1c ?_; intro w0 hrg0 hg0 hs0)
      | go_in)
    go_frame
    have hB0 : Below w.heap.size w w0 := below_grown hB (Nat.le_refl _) hg0 (fun g hg => by cases hg)
    have HO0 : Hid (Ow (eInt .i64) 3 w0 (fun _ => False) u5 (partAt pats x.pre (Maps.has D) ps)) := Lib.hid (HO.out.move (fun b hb => hb.elim) (fun g hg => ⟨fun c => c, hg0.block g (HO.out.lt g hg) (by simp)⟩))
    have HG0 : Hid (∀ g, u5.ownBlock = some g → w.heap.size ≤ g ∧ g ≠ wc.heap.size) := Lib.hid (fun g hg => ⟨HG.out g hg, by have := HO.out.lt g hg; omega⟩)
    clear hD1c m0 hB HO HG hg0
    go_loopw [5] (fun ov wr => ∃ (left : Lit → Bool) (cnt : Nat) (out : List Int), wr.ranges Tryz.prog 59 ptrElem x.m wc.heap.size ns.length D left cnt ∧ Hid (out.Perm (partAt pats x.pre left ps)) ∧ Ow (eInt .i64) 3 wr (fun _ => False) ov out ∧ Hid (∀ g, ov.ownBlock = some g → w.heap.size ≤ g ∧ g ≠ wc.heap.size) ∧ Below w.heap.size w wr) (fun _ wr => wr.rangeLeft x.m wc.heap.size)
    case atStart => exact ⟨_, _, _, hrg0, Lib.hid (List.Perm.refl _), HO0.out, HG0, hB0⟩
    case round =>
      obtain ⟨left, cnt, out, hrg, HP, hown, HG, hBr⟩ := hrel
      have hol : out.length ≤ pats.length := by rw [HP.out.length_eq]; exact partAt_len _ _ _ _
      obtain ⟨A0, cap0, rfl, hc0, hm0⟩ := hown.form
      obtain ⟨wo, rfl⟩ : ∃ wo : World, wo = wr := ⟨_, rfl⟩
      clear HO0 HG0 hB0 hrg0
      go_wp2_with (first
        | (at_next; refine wpList_next_ranges _ rfl _ rfl 59 keySeg ptrElem (fun s : Seg => .agg #[.int .i64 s.kind, .string s.text]) ptrV (fun key kl h => by obtain ⟨s, h, -⟩ := keyOf_seg_inv key kl h; exact ⟨s, h⟩) (fun v y h => by obtain ⟨c, h, -⟩ := ptrElem_inv h; exact ⟨c, h⟩) x.m wc.heap.size ns.length D left cnt rfl hrg ?_ ?_)
        | go_in)
      · intro _ hl0
        go_wp2
        go_ret
        exact ⟨_, out, rfl, hown, fun g hg => (HG.out g hg).1, HP.out.trans (List.Perm.of_eq (partAt_end _ _ _ _ hl0)), hBr⟩
      · intro s c kl yd yp w1 cnt1 hkey hlk hv hat hrg1 hlt hg1 hs1 hen
        obtain ⟨s2, he, rfl, hwf, hsz⟩ := keyOf_seg_inv _ _ hkey
        obtain ⟨sk, st⟩ := s
        obtain ⟨sk2, st2⟩ := s2
        simp only [segV, Value.agg.injEq, Array.mk.injEq, List.cons.injEq, Value.int.injEq, Value.string.injEq, true_and, and_true] at he
        obtain ⟨rfl, rfl⟩ := he
        simp only at hwf hsz
        rw [ptrElem_mk] at hv
        simp only [Option.some.injEq, Prod.mk.injEq] at hv
        obtain ⟨rfl, -⟩ := hv
        obtain ⟨y, hy, hyp, rfl⟩ := all_kid HT.out HDM.out HD2.out (s := ⟨sk, st⟩) ⟨hwf, hsz⟩ hat
        simp only [ptrV] at hen ⊢
        have hB1 : Below w.heap.size w w1 := below_grown hBr (Nat.le_refl _) hg1 (fun g hg => by cases hg; exact hwz)
        have hal : Below w.heap.size w (w1.alloc (.cells #[.int .i64 sk, .string st] 59)) := below_alloc hB1 (Nat.le_refl _) _
        have hal1 : Ch (fun _ => False) w1 (w1.alloc (.cells #[.int .i64 sk, .string st] 59)) := (Ch.refl _ _).alloc _
        have hTa := HT.out.below hal
        have hny := hTa.node y hy
        have y1 := hny.blk.cell 1
        simp only [List.getElem?_cons_zero, List.getElem?_cons_succ] at y1
        obtain ⟨Ay, capy, hye, -, -⟩ := hny.ends.form
        have hey := hny.ends
        have hel := endsOf_len pats y.pre
        rw [hye] at y1 hey
        have hown1 : Ow (eInt .i64) 3 (w1.alloc (.cells #[.int .i64 sk, .string st] 59)) (fun _ => False) (.slice A0 out.length cap0) out :=
          (hown.move (w' := w1) (I' := fun _ => False) (fun b hb => hb.elim) (fun g hg => ⟨fun c => c, hg1.block g (hown.lt g hg) (fun e => (HG.out g hg).2 (by simpa using e))⟩)).move (fun b hb => hb.elim) (fun g hg => ⟨fun c => c, hal1.block g (by have := hown.lt g hg; omega) (fun c => c)⟩)
        have hs0 := (Blk.new w1 [.int .i64 sk, .string st] 59).cell 0
        have hs1' := (Blk.new w1 [.int .i64 sk, .string st] 59).cell 1
        simp only [List.getElem?_cons_zero, List.getElem?_cons_succ] at hs0 hs1'
        have HPS := Lib.hid (partAt_step pats x.pre left ps ⟨sk, st⟩ ⟨hwf, hsz⟩ HOK.out hlk)
        have HYP := Lib.hid hyp
        have HRG := Lib.hid hrg
        have HRG1 := Lib.hid (ranges_ch hrg1 hal1 (fun c => c) (fun c => c))
        have HTA := Lib.hid hTa
        clear hyp hye hat hrg hrg1 hg1 hown hkey hlk hTa hny hal1
        rcases Decidable.em (sk = 3 ∨ (sk = 2 ∧ ps.length ≤ 1)) with hA | hA
        · have HSE := Lib.hid (subAt_ends (pats := pats) (pre := x.pre) (s := ⟨sk, st⟩) (ps := ps) hA)
          rcases Decidable.em (sk = 3) with k3 | k3
          · have q3 : (sk == 3) = true := by rw [k3]; rfl
            clear hA k3
            have hzw : (w1.alloc (.cells #[.int .i64 sk, .string st] 59)).heap.size = w1.heap.size + 1 := by simp
            go_wp2_with (at_builtin; refine wp_app (eInt .i64) rfl (.tmp 39) (.tmp 43) 22 3 rfl Tryz.underlying22 (.int .i64 0) 8 infoInt rfl (by decide) (fun _ => False) _ out rfl ?own _ (endsOf pats y.pre) rfl ?src ?c3 ?c4 ?_)
            case own => exact hown1
            case src => exact (hey.sl (B := fun _ => True) (fun _ _ _ => trivial) (fun _ _ => trivial)).plainInt
            case c3 => unfold maxLen; omega
            case c4 => omega
            intro v' w' hown' hg' hv'
            have hC : Ch (fun b => (Value.slice A0 out.length cap0).ownBlock = some b) (w1.alloc (.cells #[.int .i64 sk, .string st] 59)) w' := (Ch.of_grown hg').mono (fun b _ e => e.symm)
            have hrgN : Hid (w'.ranges Tryz.prog 59 ptrElem x.m wc.heap.size ns.length D (fun z => left z && !z.sameKey (segL ⟨sk, st⟩)) cnt1) := Lib.hid (ranges_ch HRG1.out hC (fun e => by have := (HG.out _ e).1; omega) (fun e => (HG.out _ e).2 rfl))
            have hBn : Below w.heap.size w w' := below_grown hal (Nat.le_refl _) hg' (fun g hg => (HG.out g hg).1)
            have HGn : Hid (∀ g, v'.ownBlock = some g → w.heap.size ≤ g ∧ g ≠ wc.heap.size) := Lib.hid (fun g hg => by
              rcases hv' with hv | hv
              · exact HG.out g (hv ▸ hg)
              · have h1 := hv g hg
                have h2 := HRG1.out.lt
                omega)
            have hown3 := hown'.plain (fun _ c => by first | exact c | exact c.1)
            have HPn : Hid ((out ++ endsOf pats y.pre).Perm (partAt pats x.pre (fun z => left z && !z.sameKey (segL ⟨sk, st⟩)) ps)) := Lib.hid (by rw [HYP.out, ← HSE.out]; exact (HP.out.append (List.Perm.refl _)).trans HPS.out.symm)
            clear hown' hg' hv' hC
            try intro _
            go_wp2
            go_roundw
            case rel => exact ⟨_, cnt1, out ++ endsOf pats y.pre, hrgN.out, HPn, hown3, HGn, hBn⟩
            case measure => rw [hrgN.out.left_eq, HRG.out.left_eq]; exact hlt
          · have q3 : (sk == 3) = false := beq_eq_false_iff_ne.2 k3
            obtain ⟨k2, hl1⟩ : sk = 2 ∧ ps.length ≤ 1 := by rcases hA with h | h; exact absurd h k3; exact h
            have q2 : (sk == 2) = true := by rw [k2]; rfl
            have d1 : decide ((ps.length : Int) ≤ 1) = true := decide_eq_true (by omega)
            have d1' : decide (ps.length ≤ 1) = true := decide_eq_true hl1
            clear hA k3 k2
            have hzw : (w1.alloc (.cells #[.int .i64 sk, .string st] 59)).heap.size = w1.heap.size + 1 := by simp
            go_wp2_with (at_builtin; refine wp_app (eInt .i64) rfl (.tmp 39) (.tmp 43) 22 3 rfl Tryz.underlying22 (.int .i64 0) 8 infoInt rfl (by decide) (fun _ => False) _ out rfl ?own _ (endsOf pats y.pre) rfl ?src ?c3 ?c4 ?_)
            case own => exact hown1
            case src => exact (hey.sl (B := fun _ => True) (fun _ _ _ => trivial) (fun _ _ => trivial)).plainInt
            case c3 => unfold maxLen; omega
            case c4 => omega
            intro v' w' hown' hg' hv'
            have hC : Ch (fun b => (Value.slice A0 out.length cap0).ownBlock = some b) (w1.alloc (.cells #[.int .i64 sk, .string st] 59)) w' := (Ch.of_grown hg').mono (fun b _ e => e.symm)
            have hrgN : Hid (w'.ranges Tryz.prog 59 ptrElem x.m wc.heap.size ns.length D (fun z => left z && !z.sameKey (segL ⟨sk, st⟩)) cnt1) := Lib.hid (ranges_ch HRG1.out hC (fun e => by have := (HG.out _ e).1; omega) (fun e => (HG.out _ e).2 rfl))
            have hBn : Below w.heap.size w w' := below_grown hal (Nat.le_refl _) hg' (fun g hg => (HG.out g hg).1)
            have HGn : Hid (∀ g, v'.ownBlock = some g → w.heap.size ≤ g ∧ g ≠ wc.heap.size) := Lib.hid (fun g hg => by
              rcases hv' with hv | hv
              · exact HG.out g (hv ▸ hg)
              · have h1 := hv g hg
                have h2 := HRG1.out.lt
                omega)
            have hown3 := hown'.plain (fun _ c => by first | exact c | exact c.1)
            have HPn : Hid ((out ++ endsOf pats y.pre).Perm (partAt pats x.pre (fun z => left z && !z.sameKey (segL ⟨sk, st⟩)) ps)) := Lib.hid (by rw [HYP.out, ← HSE.out]; exact (HP.out.append (List.Perm.refl _)).trans HPS.out.symm)
            clear hown' hg' hv' hC
            try intro _
            go_wp2
            go_roundw
            case rel => exact ⟨_, cnt1, out ++ endsOf pats y.pre, hrgN.out, HPn, hown3, HGn, hBn⟩
            case measure => rw [hrgN.out.left_eq, HRG.out.left_eq]; exact hlt
        · have k3 : sk ≠ 3 := fun e => hA (.inl e)
          have q3 : (sk == 3) = false := beq_eq_false_iff_ne.2 k3
          rcases Decidable.em (sk = 2) with k2 | k2
          · have q2 : (sk == 2) = true := by rw [k2]; rfl
            have hl1 : 1 < ps.length := by omega
            have d1 : decide ((ps.length : Int) ≤ 1) = false := decide_eq_false (by omega)
            have d1' : decide (ps.length ≤ 1) = false := decide_eq_false (by omega)
            have z0 : ((ps.length : Int) == 0) = false := beq_eq_false_iff_ne.2 (by omega)
            have HSS := Lib.hid (subAt_skip (pats := pats) (pre := x.pre) (s := ⟨sk, st⟩) (ps := ps) hA (.inl k2))
            have HPn : Hid (out.Perm (partAt pats x.pre (fun z => left z && !z.sameKey (segL ⟨sk, st⟩)) ps)) := Lib.hid (by have := HPS.out; rw [HSS.out, List.append_nil] at this; exact HP.out.trans this.symm)
            clear hA k3 k2
            go_wp2
            go_roundw
            case rel => exact ⟨_, cnt1, out, HRG1.out, HPn, hown1, HG, hal⟩
            case measure => rw [HRG1.out.left_eq, HRG.out.left_eq]; exact hlt
          · have q2 : (sk == 2) = false := beq_eq_false_iff_ne.2 k2
            have hcs : ps = [] ∨ ∃ p r, ps = p :: r := by
              cases ps
              · exact .inl rfl
              · exact .inr ⟨_, _, rfl⟩
            rcases hcs with hpe | ⟨p, r, hpe⟩
            · have HSS := Lib.hid (subAt_skip (pats := pats) (pre := x.pre) (s := ⟨sk, st⟩) (ps := ps) hA (.inr hpe))
              have HPn : Hid (out.Perm (partAt pats x.pre (fun z => left z && !z.sameKey (segL ⟨sk, st⟩)) ps)) := Lib.hid (by have := HPS.out; rw [HSS.out, List.append_nil] at this; exact HP.out.trans this.symm)
              have z0 : ((ps.length : Int) == 0) = true := by rw [hpe]; rfl
              clear hA k3 k2 hpe
              go_wp2
              go_roundw
              case rel => exact ⟨_, cnt1, out, HRG1.out, HPn, hown1, HG, hal⟩
              case measure => rw [HRG1.out.left_eq, HRG.out.left_eq]; exact hlt
            · have hsl : Sl eStr w B (.slice A ps.length cap) (p :: r) := by
                have := HPSl.out
                rw [hpe] at this ⊢
                exact this
              have hlq1 : 1 ≤ ps.length := by rw [hpe]; simp
              have hlq : ((ps.length : Int) == 0) = false := beq_eq_false_iff_ne.2 (by omega)
              obtain ⟨bq, oq, rfl, -, -, cq, hsm⟩ := (hsl.below hal).str_at 0 (by simp)
              simp only [List.getElem_cons_zero, Nat.add_zero] at cq hsm
              by_cases h1 : sk = 1 ∨ st = p
              · have HSG := Lib.hid (show subAt pats x.pre ⟨sk, st⟩ ps = foundAt pats (x.pre ++ [⟨sk, st⟩]) r by rw [hpe]; exact subAt_go (s := ⟨sk, st⟩) k3 k2 h1)
                have hdr := Sl.tail_ hsl
                have hdr0 : ∀ A', cap = 1 → Sl eStr w B (.slice A' (ps.length - 1) (cap - 1)) r := fun A' e => by subst e; exact Sl.tail0 hsl A'
                have HIHr := Lib.hid (HIH.out p r hpe)
                clear HIH HPSl hpe hsl
                have hdr' := hdr bq oq rfl
                clear hdr
                have hdr00 : ∀ A', cap = 1 → Sl eStr w B (.slice A' (ps.length - 1) 0) r := fun A' e => by have := hdr0 A' e; rw [e] at this; exact this
                rcases Decidable.em (sk = 1) with k1 | k1
                · have q1 : (sk == 1) = true := by rw [k1]; rfl
                  clear hA k3 k2 h1 k1
                  go_wp2_with fail
                  go_quiet (fail)
                  go_wp2_with fail
                  all_goals
                    refine (HIHr.out y _ B _ (HTA.out.keep ((Ch.refl (fun _ => False) _).drewN _) (fun _ _ c => c)) hy (by first | exact Sl.below hdr' (below_drewN hal _) | exact Sl.below (hdr00 _ (by assumption)) (below_drewN hal _))).mono ?_
                    rintro e w3 ⟨r3, out3, rfl, how3, -, hpm3, hb3⟩
                    have hsl3 := how3.sl (B := fun _ => True) (fun _ _ _ => trivial) (fun _ _ => trivial)
                    clear how3
                    have hol3 : out3.length ≤ pats.length := by rw [hpm3.length_eq]; exact foundAt_len _ _ _
                    have hB3 : Below w.heap.size w w3 := below_then (below_drewN hal _) (Nat.le_refl _) hb3
                    have hC3 : Ch (fun _ => False) (w1.alloc (.cells #[.int .i64 sk, .string st] 59)) w3 := ((Ch.refl _ _).drewN _).then_below hb3
                    have HRG3 := Lib.hid (ranges_ch HRG1.out hC3 (fun c => c) (fun c => c))
                    have hown3 : Ow (eInt .i64) 3 w3 (fun _ => False) (.slice A0 out.length cap0) out := hown1.move (fun b hb => hb.elim) (fun g hg => ⟨fun c => c, hC3.block g (hown1.lt g hg) (fun c => c)⟩)
                    have HPn : Hid ((out ++ out3).Perm (partAt pats x.pre (fun z => left z && !z.sameKey (segL ⟨sk, st⟩)) ps)) := Lib.hid (by
                      rw [HYP.out, ← HSG.out] at hpm3
                      exact (HP.out.append hpm3).trans HPS.out.symm)
                    obtain ⟨A3, cap3, rfl, -, -, -⟩ := hsl3.form
                    clear hb3 hC3 hpm3
                    go_wp2_with (at_builtin; refine wp_app (eInt .i64) rfl (.tmp 66) (.tmp 70) 22 3 rfl Tryz.underlying22 (.int .i64 0) 8 infoInt rfl (by decide) (fun _ => False) _ out rfl ?_ _ out3 rfl ?_ ?_ ?_ ?_)
                  all_goals
                    first
                    | exact hown3
                    | exact Sl.plainInt (by assumption)
                    | (unfold maxLen; omega)
                    | omega
                    | skip
                  all_goals
                    intro v' w' hown' hg' hv' _
                    have hC : Ch (fun b => (Value.slice A0 out.length cap0).ownBlock = some b) w3 w' := (Ch.of_grown hg').mono (fun b _ e => e.symm)
                    have hrgN : Hid (w'.ranges Tryz.prog 59 ptrElem x.m wc.heap.size ns.length D (fun z => left z && !z.sameKey (segL ⟨sk, st⟩)) cnt1) := Lib.hid (ranges_ch HRG3.out hC (fun e => by have := (HG.out _ e).1; omega) (fun e => (HG.out _ e).2 rfl))
                    have hBn : Below w.heap.size w w' := below_grown hB3 (Nat.le_refl _) hg' (fun g hg => (HG.out g hg).1)
                    have HGn : Hid (∀ g, v'.ownBlock = some g → w.heap.size ≤ g ∧ g ≠ wc.heap.size) := Lib.hid (fun g hg => by
                      rcases hv' with hv | hv
                      · exact HG.out g (hv ▸ hg)
                      · have h1 := hv g hg
                        have h2 := HRG3.out.lt
                        have h3 := hB3.size
                        omega)
                    have hownN : Ow (eInt .i64) 3 w' (fun _ => False) v' (out ++ out3) := hown'.plain (fun _ c => by first | exact c | exact c.1)
                    clear hown' hg' hv' hC
                    try (have hc1 : cap = 1 := (by assumption); subst hc1)
                    go_wp2
                    go_roundw
                  all_goals
                    first
                    | exact ⟨_, cnt1, out ++ out3, hrgN.out, HPn, hownN, HGn, hBn⟩
                    | (rw [hrgN.out.left_eq, HRG.out.left_eq]; exact hlt)
                · have q1 : (sk == 1) = false := beq_eq_false_iff_ne.2 k1
                  have qt : (st.toList == p.toList) = true := by rcases h1 with h1 | h1; exact absurd h1 k1; rw [h1]; simp
                  clear hA k3 k2 h1 k1
                  go_wp2_with fail
                  go_quiet (fail)
                  go_wp2_with fail
                  all_goals
                    refine (HIHr.out y _ B _ (HTA.out.keep ((Ch.refl (fun _ => False) _).drewN _) (fun _ _ c => c)) hy (by first | exact Sl.below hdr' (below_drewN hal _) | exact Sl.below (hdr00 _ (by assumption)) (below_drewN hal _))).mono ?_
                    rintro e w3 ⟨r3, out3, rfl, how3, -, hpm3, hb3⟩
                    have hsl3 := how3.sl (B := fun _ => True) (fun _ _ _ => trivial) (fun _ _ => trivial)
                    clear how3
                    have hol3 : out3.length ≤ pats.length := by rw [hpm3.length_eq]; exact foundAt_len _ _ _
                    have hB3 : Below w.heap.size w w3 := below_then (below_drewN hal _) (Nat.le_refl _) hb3
                    have hC3 : Ch (fun _ => False) (w1.alloc (.cells #[.int .i64 sk, .string st] 59)) w3 := ((Ch.refl _ _).drewN _).then_below hb3
                    have HRG3 := Lib.hid (ranges_ch HRG1.out hC3 (fun c => c) (fun c => c))
                    have hown3 : Ow (eInt .i64) 3 w3 (fun _ => False) (.slice A0 out.length cap0) out := hown1.move (fun b hb => hb.elim) (fun g hg => ⟨fun c => c, hC3.block g (hown1.lt g hg) (fun c => c)⟩)
                    have HPn : Hid ((out ++ out3).Perm (partAt pats x.pre (fun z => left z && !z.sameKey (segL ⟨sk, st⟩)) ps)) := Lib.hid (by
                      rw [HYP.out, ← HSG.out] at hpm3
                      exact (HP.out.append hpm3).trans HPS.out.symm)
                    obtain ⟨A3, cap3, rfl, -, -, -⟩ := hsl3.form
                    clear hb3 hC3 hpm3
                    go_wp2_with (at_builtin; refine wp_app (eInt .i64) rfl (.tmp 66) (.tmp 70) 22 3 rfl Tryz.underlying22 (.int .i64 0) 8 infoInt rfl (by decide) (fun _ => False) _ out rfl ?_ _ out3 rfl ?_ ?_ ?_ ?_)
                  all_goals
                    first
                    | exact hown3
                    | exact Sl.plainInt (by assumption)
                    | (unfold maxLen; omega)
                    | omega
                    | skip
                  all_goals
                    intro v' w' hown' hg' hv' _
                    have hC : Ch (fun b => (Value.slice A0 out.length cap0).ownBlock = some b) w3 w' := (Ch.of_grown hg').mono (fun b _ e => e.symm)
                    have hrgN : Hid (w'.ranges Tryz.prog 59 ptrElem x.m wc.heap.size ns.length D (fun z => left z && !z.sameKey (segL ⟨sk, st⟩)) cnt1) := Lib.hid (ranges_ch HRG3.out hC (fun e => by have := (HG.out _ e).1; omega) (fun e => (HG.out _ e).2 rfl))
                    have hBn : Below w.heap.size w w' := below_grown hB3 (Nat.le_refl _) hg' (fun g hg => (HG.out g hg).1)
                    have HGn : Hid (∀ g, v'.ownBlock = some g → w.heap.size ≤ g ∧ g ≠ wc.heap.size) := Lib.hid (fun g hg => by
                      rcases hv' with hv | hv
                      · exact HG.out g (hv ▸ hg)
                      · have h1 := hv g hg
                        have h2 := HRG3.out.lt
                        have h3 := hB3.size
                        omega)
                    have hownN : Ow (eInt .i64) 3 w' (fun _ => False) v' (out ++ out3) := hown'.plain (fun _ c => by first | exact c | exact c.1)
                    clear hown' hg' hv' hC
                    try (have hc1 : cap = 1 := (by assumption); subst hc1)
                    go_wp2
                    go_roundw
                  all_goals
                    first
                    | exact ⟨_, cnt1, out ++ out3, hrgN.out, HPn, hownN, HGn, hBn⟩
                    | (rw [hrgN.out.left_eq, HRG.out.left_eq]; exact hlt)
              · have k1 : sk ≠ 1 := fun e => h1 (.inl e)
                have hst : st ≠ p := fun e => h1 (.inr e)
                have HSM := Lib.hid (show subAt pats x.pre ⟨sk, st⟩ ps = [] by rw [hpe]; exact subAt_miss (s := ⟨sk, st⟩) k3 k2 k1 hst)
                have HPn : Hid (out.Perm (partAt pats x.pre (fun z => left z && !z.sameKey (segL ⟨sk, st⟩)) ps)) := Lib.hid (by have := HPS.out; rw [HSM.out, List.append_nil] at this; exact HP.out.trans this.symm)
                clear HIH HPSl HPS HSM hpe hsl
                have q1 : (sk == 1) = false := beq_eq_false_iff_ne.2 k1
                have qt : (st.toList == p.toList) = false := by rw [beq_list]; simp [hst]
                clear hA k3 k2 h1 k1 hst
                go_wp2_with fail
                go_quiet (fail)
                go_wp2_with fail
                go_roundw
                case rel => exact ⟨_, cnt1, out, ranges_ch HRG1.out ((Ch.refl (fun _ => False) _).drewN _) (fun c => c) (fun c => c), HPn, hown1.move (fun b hb => hb.elim) (fun g hg => ⟨fun c => c, rfl⟩), HG, below_drewN hal _⟩
                case measure => rw [(ranges_ch HRG1.out ((Ch.refl (fun _ => False) _).drewN _) (fun c => c) (fun c => c)).left_eq, HRG.out.left_eq]; exact hlt
/-- trie.all: the places of the patterns that the path has, in some order. -/
theorem trieAll_calls (base root : Nat) (pats : List (List Seg × Nat)) (ns : List TN) (hok : ∀ q ∈ pats, ∀ y ∈ q.1, SegOk y) (hpl : pats.length < 65536) : ∀ ps, AllC base root pats ns ps
  | [] => all_step base root pats ns hok hpl [] (fun p r e => by cases e)
  | p :: r => all_step base root pats ns hok hpl (p :: r) (fun p' r' e => by cases e; exact trieAll_calls base root pats ns hok hpl r)
end Go.Proofs.YtejbkjndipineaaGreatDoor
