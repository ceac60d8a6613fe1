/- Walk of route.Resolve. -/
import Derived.Test.YtejbkjndipineaaGreatDoorTrie12
import Derived.Test.YtejbkjndipineaaGreatDoorRoute6
namespace Go.Proofs.YtejbkjndipineaaGreatDoor
open Go Go.RowKit PR
set_option linter.unusedVariables false
set_option linter.unusedSimpArgs false
set_option maxHeartbeats 400000
set_option maxRecDepth 100000

/-- The records' full patterns. -/
def fulls (l : List Record) : List (List Seg) := (List.range l.length).map (fun k => fullS l (k : Nat))
/-- The places of the patterns that a path has, in order. -/
def foundS (ls : List (List Seg)) (ps : List ByteArray) : List Int := foundAt (patsOf ls (sortedS ls)) [] ps
/-- Where a path leads, and its parameters. -/
def resolveS (l : List Record) (ps : List ByteArray) : Int × List Pair × Bool := if rightRec l = true then findS (fulls l) (foundS (fulls l) ps) ps else (-1, [], false)

theorem rightGo_pat : ∀ (xs : List Record) (l : List Record) (i : Nat), rightGo l i xs = true → ∀ k, k < xs.length → patR (fullS l ((i + k : Nat) : Int)) = true
  | [], _, _, _, k, hk => by simp at hk
  | x :: xs, l, i, h, k, hk => by
    rw [rightGo] at h
    simp only [Bool.and_eq_true, decide_eq_true_eq] at h
    cases k with
    | zero => exact h.1.2
    | succ k =>
      have := rightGo_pat xs l (i + 1) h.2 k (by simpa using hk)
      rw [show i + (k + 1) = i + 1 + k by omega]
      exact this
theorem rightRec_ok {l : List Record} (h : rightRec l = true) : 1 ≤ l.length ∧ l.length ≤ 16 ∧ ∀ p ∈ fulls l, patR p = true := by
  unfold rightRec at h
  simp only [Bool.and_eq_true, decide_eq_true_eq] at h
  refine ⟨h.1.1, h.1.2, fun p hp => ?_⟩
  obtain ⟨k, hk, rfl⟩ := List.mem_map.1 hp
  have := rightGo_pat l l 0 h.2 k (List.mem_range.1 hk)
  simpa using this
theorem patsOf_facts (ls : List (List Seg)) (hR : ∀ l ∈ ls, patR l = true) : (∀ q ∈ patsOf ls (sortedS ls), ∀ y ∈ q.1, SegOk y) ∧ (∀ q ∈ patsOf ls (sortedS ls), q.2 < ls.length) ∧ (patsOf ls (sortedS ls)).length = ls.length := by
  have hp := sortedS_perm ls
  refine ⟨fun q hq => ?_, fun q hq => ?_, by unfold patsOf; rw [List.length_map, hp.length_eq]; simp⟩
  · obtain ⟨i, hi, rfl⟩ := List.mem_map.1 hq
    obtain ⟨j, hj, rfl⟩ := List.mem_map.1 (hp.mem_iff.1 hi)
    have hj' := List.mem_range.1 hj
    simp only [Int.toNat_natCast, List.getElem?_eq_getElem hj', Option.getD_some]
    exact (patR_ok (hR _ (List.getElem_mem hj'))).2
  · obtain ⟨i, hi, rfl⟩ := List.mem_map.1 hq
    obtain ⟨j, hj, rfl⟩ := List.mem_map.1 (hp.mem_iff.1 hi)
    simpa using List.mem_range.1 hj

theorem grow_own {base n : Nat} {v v' : Value} {acc : List (List Seg)} {wA w' : World} (hown' : Ow (eSl eSeg) 42 w' (fun b => (base ≤ b ∧ v.ownBlock ≠ some b ∧ b < wA.heap.size) ∧ b < n) v' acc) (hv : v'.ownBlock = v.ownBlock ∨ ∀ g, v'.ownBlock = some g → n ≤ g) (hn : wA.heap.size ≤ n) (hG : ∀ g, v.ownBlock = some g → base ≤ g) (hb : base ≤ wA.heap.size) :
    Ow (eSl eSeg) 42 w' (fun b => base ≤ b ∧ v'.ownBlock ≠ some b) v' acc ∧ ∀ g, v'.ownBlock = some g → base ≤ g := by
  have hG' : ∀ g, v'.ownBlock = some g → base ≤ g := by
    intro g hg
    rcases hv with hv | hv
    · exact hG g (hv ▸ hg)
    · have := hv g hg
      omega
  refine ⟨hown'.mono (fun b hb hl => ⟨hb.1.1, fun e => ?_⟩) (fun g hg c => c.2 hg), hG'⟩
  rcases hv with hv | hv
  · exact hb.1.2.1 (hv ▸ e)
  · have := hv b e
    have := hb.1.2.2
    omega

set_option maxHeartbeats 1000000 in
theorem resolve_calls (l : List Record) (ps : List ByteArray) (v q : Value) (B : Nat → Prop) (w : World) (hl : Sl eRecord w B v l) (hq : Sl eStr w B q ps) (hsg : ∀ r ∈ l, r.segs.length ≤ 65536) (hp8 : ps.length ≤ 4096) (hpz : ∀ p ∈ ps, p.size ≤ 16777216) :
    Calls Tryz.prog 16 #[v, q] w fun e w' => ∃ r, e = .returned (.tuple #[.int .i64 (resolveS l ps).1, r, .bool (resolveS l ps).2.2]) ∧ Sl ePairS w' (fun b => w.heap.size ≤ b) r (resolveS l ps).2.1 ∧ Below w.heap.size w w' := by
  obtain ⟨A, cap, rfl, hcap, hmax, -⟩ := hl.form
  unfold maxLen at hmax
  obtain ⟨Aq, capq, rfl, -, -, -⟩ := hq.form
  have HSG := Lib.hid hsg
  have HPZ := Lib.hid (And.intro hp8 hpz)
  clear hsg hp8 hpz
  go_enter Tryz.func16, Tryz.ntmps16
  go_wp2_with fail
  refine (rightRec_calls l _ B _ hl HSG.out).mono ?_
  rintro e w1 ⟨rfl, hb1⟩
  cases hr : rightRec l with
  | false =>
    have HR := Lib.hid (show resolveS l ps = (-1, [], false) by unfold resolveS; rw [hr]; rfl)
    clear hr
    go_wp2
    go_ret3
    rw [HR.out]
    exact ⟨_, rfl, Sl.nil _ _ _, hb1⟩
  | true =>
    have HRS := Lib.hid (show resolveS l ps = findS (fulls l) (foundS (fulls l) ps) ps by unfold resolveS; rw [hr]; rfl)
    have HOK := Lib.hid (rightRec_ok hr)
    obtain ⟨h1, h16, -⟩ := HOK.out
    have hl1 := hl.below hb1
    have hq1 := hq.below hb1
    have hz1 := hb1.size
    have hfl : (fulls l).length = l.length := by simp [fulls]
    have HQ := Lib.hid hq1
    clear hr hl hq hq1
    go_wp2
    go_loopw [7, 14] (fun v iv wr => ∃ (k : Nat), iv = .int .i64 k ∧ k ≤ l.length ∧ Ow (eSl eSeg) 42 wr (fun b => w1.heap.size ≤ b ∧ v.ownBlock ≠ some b) v ((fulls l).take k) ∧ Hid (∀ g, v.ownBlock = some g → w1.heap.size ≤ g) ∧ Below w1.heap.size w1 wr) (fun _ iv _ => l.length - (intOf iv).toNat)
    case atStart => exact ⟨0, rfl, by omega, Ow.nil _ _ _ _, Lib.hid (fun g hg => by simp [Value.ownBlock] at hg), Below.refl _ _⟩
    case round =>
      obtain ⟨k, rfl, hk, hown, HG, hB⟩ := hrel
      obtain ⟨A0, cap0, rfl, hc0, hm0⟩ := hown.form
      unfold maxLen at hm0
      obtain ⟨wo, rfl⟩ : ∃ wo : World, wo = wr := ⟨_, rfl⟩
      by_cases hlt : k < l.length
      · have HTK := Lib.hid (show (fulls l).take (k + 1) = (fulls l).take k ++ [fullS l (k : Nat)] by rw [List.take_succ_eq_append_getElem (by omega)]; simp [fulls])
        have hak : ((fulls l).take k).length ≤ k := by rw [List.length_take]; omega
        generalize (fulls l).take k = acc at *
        have hlw := hl1.below hB
        have HOW := Lib.hid hown
        clear hown
        go_wp2_with fail
        refine (full_calls l _ B _ (k : Int) hlw (by omega) HSG.out).mono ?_
        rintro e wA ⟨r, rfl, hr, hbA⟩
        obtain ⟨Ar, capr, rfl, -, -, -⟩ := hr.form
        have hzo := hB.size
        have hzA := hbA.size
        have hBA := below_then hB (Nat.le_refl _) hbA
        have HSRC := Lib.hid (new_src HOW.out hbA hr hzo)
        have HOW2 := Lib.hid (new_own HOW.out hbA (.cells #[.slice Ar (fullS l (k : Nat)).length capr] 42))
        clear hlw hr hbA
        go_wp2_with (at_builtin; refine wp_app (eSl eSeg) rfl (.tmp 17) (.tmp 21) 90 42 rfl Tryz.underlying90 (.slice none 0 0) 24 infoSlSeg rfl (by decide) (fun b => w1.heap.size ≤ b ∧ (Value.slice A0 acc.length cap0).ownBlock ≠ some b ∧ b < wA.heap.size) _ acc rfl ?own _ [fullS l (k : Nat)] rfl ?src ?c3 ?c4 ?_)
        case own => exact HOW2.out
        case src => exact HSRC.out
        case c3 => unfold maxLen; show acc.length + 1 ≤ _; omega
        case c4 => show (acc.length + 1) * 24 ≤ _; omega
        intro v' w' hown' hg' hv'
        have hv2 : v'.ownBlock = (Value.slice A0 acc.length cap0).ownBlock ∨ ∀ g, v'.ownBlock = some g → wA.heap.size + 1 ≤ g := by simpa using hv'
        have hres := grow_own (n := wA.heap.size + 1) (wA := wA) (by simpa using hown') hv2 (by omega) HG.out (Nat.le_trans hzo hzA)
        have hBn := app_below hBA (Nat.le_refl _) hg' (fun g hg => HG.out g hg)
        have HRES := Lib.hid hres
        obtain ⟨Av, capv, rfl, -, -⟩ := hown'.form
        clear hown' hg' hv' hv2 hres hBA
        try intro _
        go_wp2
        go_roundw
        case rel => exact ⟨k + 1, by go_num, by omega, by rw [HTK.out]; exact HRES.out.1, Lib.hid HRES.out.2, hBn⟩
        case measure => simp [intOf]; omega
      · obtain rfl : k = l.length := by omega
        have hta : (fulls l).take l.length = fulls l := List.take_of_length_le (by omega)
        have htl : ((fulls l).take l.length).length = l.length := by rw [hta, hfl]
        rw [htl] at hown HG ⊢
        rw [hta] at hown
        have HFL := Lib.hid hfl
        clear hta htl hfl
        have hls : Sl (eSl eSeg) wo (fun b => w1.heap.size ≤ b) (.slice A0 l.length cap0) (fulls l) := hown.sl (fun b h _ => h.1) (fun g hg => HG.out g hg)
        have HP := Lib.hid (patsOf_facts (fulls l) HOK.out.2.2)
        have hN := new_calls (fulls l) _ _ wo hls (by rw [HFL.out]; omega) (by rw [HFL.out]; omega) HOK.out.2.2
        have HN := Lib.hid hN
        clear hN hls hown
        go_wp2_with fail
        refine HN.out.mono ?_
        rintro e w2 ⟨bt, mt, root, n, lv, ns, rfl, hbk, hT, hM, hlv, hb2⟩
        have hB2 := below_then hB (Nat.le_refl _) hb2
        have hF := find_calls (fulls l) lv bt wo.heap.size root mt n w2 _ ns hT hbk hM HP.out.1 (by rw [HP.out.2.2, HFL.out]; omega) (by rw [HFL.out]; omega) HP.out.2.1 _ _ B ps hlv (HQ.out.below hB2) HPZ.out.1 HPZ.out.2
        have HF := Lib.hid hF
        clear hF hT hbk hM hlv hb2
        go_wp2_with fail
        refine HF.out.mono ?_
        rintro e w3 ⟨r, rfl, hr, hb3⟩
        obtain ⟨Ar, capr, rfl, -, -, -⟩ := hr.form
        have hB3 := below_then hb1 (Nat.le_refl _) (below_then hB2 (Nat.le_refl _) hb3)
        have hz2 := hB2.size
        clear hb3
        go_wp2
        go_ret3
        rw [HRS.out]
        exact ⟨_, rfl, hr.mono (fun b hb => by omega), hB3⟩
end Go.Proofs.YtejbkjndipineaaGreatDoor
