/- Chapter 10's runs, reckoned. Walk of travel.Key where there are no parameters; of the law's same. -/
import Derived.Test.YtejbkjndipineaaGreatDoorGo
import Derived.Test.YtejbkjndipineaaGreatDoorPrint
import Derived.Test.YtejbkjndipineaaGreatDoorBase
namespace Go.Proofs.YtejbkjndipineaaGreatDoor
open Go Go.RowKit PR
set_option linter.unusedVariables false
set_option linter.unusedSimpArgs false
set_option maxHeartbeats 400000
set_option maxRecDepth 100000

def shopB : ByteArray := ⟨#[115, 104, 111, 112]⟩
def homeB : ByteArray := ⟨#[104, 111, 109, 101]⟩
def runsL : List Record := [⟨homeB, -1, [], 0, false, ⟨3, 0, shopB⟩⟩, ⟨shopB, -1, [⟨0, shopB⟩], 0, false, ⟨0, 0, ⟨#[]⟩⟩⟩]
def runsM : List Record := [⟨homeB, -1, [], 0, false, ⟨3, 0, shopB⟩⟩, ⟨shopB, -1, [⟨0, shopB⟩], 0, false, ⟨3, 0, homeB⟩⟩]
theorem eval_l : travelS runsL ⟨#[47]⟩ [] = (⟨⟨[shopB], []⟩, 1, [1], [], 1⟩, 0) := by kernel_rfl
theorem eval_m : travelS runsM ⟨#[47]⟩ [] = (.zero, 4) := by kernel_rfl
theorem eval_p : printS ⟨[shopB], []⟩ = ⟨#[47, 115, 104, 111, 112]⟩ := by kernel_rfl

open Go Go.RowKit PR
set_option linter.unusedVariables false
set_option linter.unusedSimpArgs false
set_option maxHeartbeats 400000
set_option maxRecDepth 100000

theorem key_calls (l : List Record) (ch : List Int) (v p q c r : Value) (id hops : Int) (n : Nat) (B : Nat → Prop) (w : World) (hl : Sl eRecord w B v l) (hc : Sl (eInt .i64) w B c ch) (hr : Sl ePairS w B r []) (m : Nat) (hn : n < ch.length) (hm : ch[n] = (m : Int)) (hml : m < l.length) (hpv : ∃ A k cp, p = .slice A k cp) (hqv : ∃ A k cp, q = .slice A k cp) (hns : l[m].name.size ≤ 1024) :
    Calls Tryz.prog 22 #[v, .agg #[p, q, .int .i64 id, c, r, .int .i64 hops], .int .i64 (n : Int)] w fun e w' => e = .returned (.string (⟨#[47]⟩ ++ l[m].name)) ∧ Below w.heap.size w w' := by
  obtain ⟨A, cap, rfl, -, hmax, -⟩ := hl.form
  obtain ⟨Ac, capc, rfl, -, hmc, -⟩ := hc.form
  obtain ⟨Ar, capr, rfl, -, -, -⟩ := hr.form
  obtain ⟨Ap, kp, cp, rfl⟩ := hpv
  obtain ⟨Aq, kq, cq, rfl⟩ := hqv
  unfold maxLen at hmax hmc
  obtain ⟨bc, oc, rfl, -, -, cc⟩ := hc.int_at n hn
  rw [hm] at cc
  obtain ⟨bl, ol, sv, rfl, -, -, hsv, l0, l1, l2, l3, l4, l5, l6, l7, -, -⟩ := hl.record_at m hml
  obtain ⟨As, caps, rfl, -, -, -⟩ := hsv.form
  generalize (l[m]).segs.length = ns at *
  generalize l[m] = x at *
  obtain ⟨xn, xp, xs, xc, xk, xr⟩ := x
  obtain ⟨rk, rf, rt⟩ := xr
  simp only at l0 l1 l2 l3 l4 l5 l6 l7 hns ⊢
  clear hm hsv hc hr
  have hal : Below w.heap.size w (w.alloc (.cells #[.slice Ap kp cp, .slice Aq kq cq, .int .i64 id, .slice (some ⟨bc, oc, none⟩) ch.length capc, .slice Ar ([] : List Pair).length capr, .int .i64 hops] 34)) := below_alloc (Below.refl _ _) (Nat.le_refl _) _
  have hbk := Blk.new w [.slice Ap kp cp, .slice Aq kq cq, .int .i64 id, .slice (some ⟨bc, oc, none⟩) ch.length capc, .slice Ar ([] : List Pair).length capr, .int .i64 hops] 34
  change Blk (w.alloc (.cells #[.slice Ap kp cp, .slice Aq kq cq, .int .i64 id, .slice (some ⟨bc, oc, none⟩) ch.length capc, .slice Ar ([] : List Pair).length capr, .int .i64 hops] 34)) _ _ _ at hbk
  go_enter Tryz.func22, Tryz.ntmps22
  go_upto_region 1 with fail
  change Code.wp _ _ _ _ (w.alloc (.cells #[.slice Ap kp cp, .slice Aq kq cq, .int .i64 id, .slice (some ⟨bc, oc, none⟩) ch.length capc, .slice Ar ([] : List Pair).length capr, .int .i64 hops] 34))
  generalize w.alloc (.cells #[.slice Ap kp cp, .slice Aq kq cq, .int .i64 id, .slice (some ⟨bc, oc, none⟩) ch.length capc, .slice Ar ([] : List Pair).length capr, .int .i64 hops] 34) = w1 at *
  have k2 := hbk.cell 2
  have k3 := hbk.cell 3
  have k4 := hbk.cell 4
  simp only [List.getElem?_cons_zero, List.getElem?_cons_succ] at k2 k3 k4
  replace cc := below_cell hal cc
  replace l0 := below_cell hal l0
  replace l1 := below_cell hal l1
  replace l2 := below_cell hal l2
  replace l3 := below_cell hal l3
  replace l4 := below_cell hal l4
  replace l5 := below_cell hal l5
  replace l6 := below_cell hal l6
  replace l7 := below_cell hal l7
  have d1 : decide ((n : Int) < 0) = false := decide_eq_false (by omega)
  have d2 : decide ((ch.length : Int) ≤ n) = false := decide_eq_false (by omega)
  have d2' : decide (ch.length ≤ n) = false := decide_eq_false (by omega)
  have d3 : decide ((m : Int) < 0) = false := decide_eq_false (by omega)
  have d4 : decide ((l.length : Int) ≤ m) = false := decide_eq_false (by omega)
  have d4' : decide (l.length ≤ m) = false := decide_eq_false (by omega)
  have hwl : w.heap.size < w1.heap.size := hbk.lt
  have k3' := below_cell (below_alloc (Below.refl w1.heap.size w1) (Nat.le_refl _) (.cells #[.string xn, .int .i64 xp, .slice As ns caps, .int .i64 xc, .bool xk, .int .i64 rk, .int .i64 rf, .string rt] 46)) k3
  clear hbk
  go_wp2
  go_loopw [8, 54] (fun kv iv wr => kv = .string (⟨#[47]⟩ ++ xn) ∧ iv = .int .i64 0 ∧ Below w.heap.size w wr) (fun _ _ _ => 0)
  case atStart => exact ⟨rfl, rfl, below_alloc hal (Nat.le_refl _) _⟩
  case round =>
    obtain ⟨rfl, rfl, hB⟩ := hrel
    go_wp2
    go_ret
    exact ⟨rfl, hB⟩

theorem keyNone_calls (l : List Record) (ch : List Int) (v p q c r : Value) (id hops : Int) (n : Nat) (B : Nat → Prop) (w : World) (hl : Sl eRecord w B v l) (hc : Sl (eInt .i64) w B c ch) (hn : ch.length ≤ n) (hpv : ∃ A k cp, p = .slice A k cp) (hqv : ∃ A k cp, q = .slice A k cp) (hrv : ∃ A k cp, r = .slice A k cp) (hn2 : n < 1000) :
    Calls Tryz.prog 22 #[v, .agg #[p, q, .int .i64 id, c, r, .int .i64 hops], .int .i64 (n : Int)] w fun e w' => e = .returned (.string ⟨#[]⟩) ∧ Below w.heap.size w w' := by
  obtain ⟨A, cap, rfl, -, hmax, -⟩ := hl.form
  obtain ⟨Ac, capc, rfl, -, hmc, -⟩ := hc.form
  obtain ⟨Ar, kr, capr, rfl⟩ := hrv
  obtain ⟨Ap, kp, cp, rfl⟩ := hpv
  obtain ⟨Aq, kq, cq, rfl⟩ := hqv
  unfold maxLen at hmax hmc
  clear hl hc
  generalize ch.length = nc at *
  generalize l.length = nl at *
  have d1 : decide ((n : Int) < 0) = false := decide_eq_false (by omega)
  have d2 : decide ((nc : Int) ≤ n) = true := decide_eq_true (by omega)
  have d2' : decide (nc ≤ n) = true := decide_eq_true (by omega)
  go_enter Tryz.func22, Tryz.ntmps22
  go_wp2
  go_ret
  exact ⟨rfl, below_alloc (Below.refl _ _) (Nat.le_refl _) _⟩

/-- The law's same, where the other place is none. -/
theorem lawSame_calls (w : World) (pl : Place) (p q c r : Value) (B : Nat → Prop) (hz : pl = .zero) (hp : Sl eStr w B p pl.url.path) (hq : Sl ePairS w B q pl.url.query) (hc : Sl (eInt .i64) w B c pl.chain) (hr : Sl ePairS w B r pl.params) :
    Calls Tryz.prog 7 #[.agg #[p, q, .int .i64 pl.id, c, r, .int .i64 pl.hops], .agg #[.slice none 0 0, .slice none 0 0, .int .i64 0, .slice none 0 0, .slice none 0 0, .int .i64 0]] w fun e w' => e = .returned (.bool true) ∧ Below w.heap.size w w' := by
  subst hz
  simp only [Place.zero] at *
  obtain ⟨Ap, cp, rfl, -, -, -⟩ := hp.form
  obtain ⟨Aq, cq, rfl, -, -, -⟩ := hq.form
  obtain ⟨Ac, cc, rfl, -, -, -⟩ := hc.form
  obtain ⟨Ar, cr, rfl, -, -, -⟩ := hr.form
  have hb : Below w.heap.size w ((w.alloc (.cells #[.slice Ap 0 cp, .slice Aq 0 cq, .int .i64 0, .slice Ac 0 cc, .slice Ar 0 cr, .int .i64 0] 34)).alloc (.cells #[.slice none 0 0, .slice none 0 0, .int .i64 0, .slice none 0 0, .slice none 0 0, .int .i64 0] 39)) := below_alloc (below_alloc (Below.refl _ _) (Nat.le_refl _) _) (Nat.le_refl _) _
  have k1 := (Blk.new w [.slice Ap 0 cp, .slice Aq 0 cq, .int .i64 0, .slice Ac 0 cc, .slice Ar 0 cr, .int .i64 0] 34).alloc (.cells #[.slice none 0 0, .slice none 0 0, .int .i64 0, .slice none 0 0, .slice none 0 0, .int .i64 0] 39)
  have k2 := Blk.new (w.alloc (.cells #[.slice Ap 0 cp, .slice Aq 0 cq, .int .i64 0, .slice Ac 0 cc, .slice Ar 0 cr, .int .i64 0] 34)) [.slice none 0 0, .slice none 0 0, .int .i64 0, .slice none 0 0, .slice none 0 0, .int .i64 0] 39
  rw [show (w.alloc (.cells #[.slice Ap 0 cp, .slice Aq 0 cq, .int .i64 0, .slice Ac 0 cc, .slice Ar 0 cr, .int .i64 0] 34)).heap.size = w.heap.size + 1 by simp] at k2
  have HS := Lib.hid (same_calls ⟨[], []⟩ ⟨[], []⟩ (.slice Ap 0 cp) (.slice Aq 0 cq) (.slice none 0 0) (.slice none 0 0) B _ (hp.below hb) (hq.below hb) (Sl.nil _ _ _) (Sl.nil _ _ _))
  have HP := Lib.hid (And.intro (hc.below hb) (hr.below hb))
  have HK := Lib.hid (And.intro k1 k2)
  have HB := Lib.hid hb
  clear hb hp hq hc hr k1 k2
  go_enter Tryz.func7, Tryz.ntmps7
  go_wp2_with fail
  refine HS.out.mono ?_
  rintro e w1 ⟨rfl, hb1⟩
  have hB1 := below_then HB.out (Nat.le_refl _) hb1
  obtain ⟨k1, k2⟩ := HK.out
  replace k1 := k1.below hb1 k1.lt
  replace k2 := k2.below hb1 k2.lt
  have a1 := k1.cell 2
  have a2 := k1.cell 3
  have b1 := k2.cell 2
  have b2 := k2.cell 3
  simp only [List.getElem?_cons_zero, List.getElem?_cons_succ] at a1 a2 b1 b2
  obtain ⟨hc, hr⟩ := HP.out
  have HC := Lib.hid (sameInt_calls [] [] (.slice Ac 0 cc) (.slice none 0 0) B w1 (hc.below hb1) (Sl.nil _ _ _))
  have HR := Lib.hid (hr.below hb1)
  have HK := Lib.hid (And.intro k1 k2)
  clear hc hr k1 k2 hb1 HS HP HB
  go_wp2_with fail
  refine HC.out.mono ?_
  rintro e w2 ⟨rfl, hb2⟩
  have hB2 := below_then hB1 (Nat.le_refl _) hb2
  obtain ⟨k1, k2⟩ := HK.out
  replace k1 := k1.below hb2 k1.lt
  replace k2 := k2.below hb2 k2.lt
  have a3 := k1.cell 4
  have b3 := k2.cell 4
  simp only [List.getElem?_cons_zero, List.getElem?_cons_succ] at a3 b3
  have HR2 := Lib.hid (samePair_calls [] [] (.slice Ar 0 cr) (.slice none 0 0) B w2 (HR.out.below hb2) (Sl.nil _ _ _))
  have HK := Lib.hid (And.intro k1 k2)
  clear k1 k2 hb2 a1 a2 b1 b2
  go_wp2_with fail
  refine HR2.out.mono ?_
  rintro e w3 ⟨rfl, hb3⟩
  have hB3 := below_then hB2 (Nat.le_refl _) hb3
  obtain ⟨k1, k2⟩ := HK.out
  replace k1 := k1.below hb3 k1.lt
  replace k2 := k2.below hb3 k2.lt
  have a4 := k1.cell 5
  have b4 := k2.cell 5
  simp only [List.getElem?_cons_zero, List.getElem?_cons_succ] at a4 b4
  clear k1 k2 hb3
  go_wp2
  go_ret
  exact ⟨rfl, hB3⟩
end Go.Proofs.YtejbkjndipineaaGreatDoor
