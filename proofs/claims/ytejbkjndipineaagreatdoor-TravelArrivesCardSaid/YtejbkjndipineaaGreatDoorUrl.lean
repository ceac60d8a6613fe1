/- Walks of url.text, url.Right, url.Get, url.Same, pattern.value, pattern.alike. -/
import Derived.Test.YtejbkjndipineaaGreatDoorBase
namespace Go.Proofs.YtejbkjndipineaaGreatDoor
open Go Go.RowKit PR
set_option linter.unusedVariables false
set_option linter.unusedSimpArgs false
set_option maxHeartbeats 400000
set_option maxRecDepth 100000

def textS (s : ByteArray) (least : Int) : Bool := decide (least ≤ (s.size : Int)) && decide ((s.size : Int) ≤ 64)
theorem text_calls (s : ByteArray) (n : Int) (w : World) (hs : s.size ≤ maxLen) :
    Calls Tryz.prog 43 #[.string s, .int .i64 n] w fun e w' => e = .returned (.bool (textS s n)) ∧ w = w' := by
  unfold maxLen at hs
  by_cases h1 : n ≤ (s.size : Int)
  · have d1 : decide (n ≤ (s.size : Int)) = true := decide_eq_true h1
    by_cases h2 : (s.size : Int) ≤ 64
    · have d2 : decide ((s.size : Int) ≤ 64) = true := decide_eq_true h2
      have d3 : decide (s.size ≤ 64) = true := by simp; omega
      have HR := Lib.hid (show textS s n = true by unfold textS; rw [d1, d2]; rfl)
      go_enter Tryz.func43, Tryz.ntmps43
      go_wp2
      go_ret
      exact ⟨by rw [HR.out]; rfl, rfl⟩
    · have d2 : decide ((s.size : Int) ≤ 64) = false := decide_eq_false h2
      have d3 : decide (s.size ≤ 64) = false := by simp; omega
      have HR := Lib.hid (show textS s n = false by unfold textS; rw [d1, d2]; rfl)
      go_enter Tryz.func43, Tryz.ntmps43
      go_wp2
      go_ret
      exact ⟨by rw [HR.out]; rfl, rfl⟩
  · have d1 : decide (n ≤ (s.size : Int)) = false := decide_eq_false h1
    have HR := Lib.hid (show textS s n = false by unfold textS; rw [d1]; rfl)
    go_enter Tryz.func43, Tryz.ntmps43
    go_wp2
    go_ret
    exact ⟨by rw [HR.out]; rfl, rfl⟩

/-- The first value of a name. -/
def getS (l : List Pair) (name : ByteArray) : ByteArray × Bool := match l.find? (fun p => decide (p.name = name)) with | some p => (p.value, true) | none => (⟨#[]⟩, false)
theorem getS_cons (p : Pair) (l : List Pair) (name : ByteArray) : getS (p :: l) name = if p.name = name then (p.value, true) else getS l name := by
  unfold getS
  rw [List.find?_cons]
  by_cases h : p.name = name <;> simp [h]

theorem get_calls (p : Value) (l : List Pair) (q : Value) (name : ByteArray) (B : Nat → Prop) (w : World) (hq : Sl ePairS w B q l) :
    Calls Tryz.prog 91 #[.agg #[p, q], .string name] w fun e w' => e = .returned (.tuple #[.string (getS l name).1, .bool (getS l name).2]) ∧ Below w.heap.size w w' := by
  obtain ⟨A, cap, rfl, hcap, hmax, -⟩ := hq.form
  unfold maxLen at hmax
  go_enter Tryz.func91, Tryz.ntmps91
  go_wp2
  go_loopw [11] (fun i wr => ∃ k : Nat, i = .int .i64 k ∧ k ≤ l.length ∧ Below w.heap.size w wr ∧ Hid (getS (l.drop k) name = getS l name)) (fun i _ => l.length - (intOf i).toNat)
  case atStart => exact ⟨0, rfl, by omega, by (repeat (first | assumption | exact Below.refl _ _ | apply Below.drew | apply below_drewN | refine below_alloc ?_ (Nat.le_refl _) _ | refine below_then ?_ (Nat.le_refl _) (by assumption))), Lib.hid rfl⟩
  case round =>
    obtain ⟨k, rfl, hk, hB, hS⟩ := hrel
    by_cases hlt : k < l.length
    · obtain ⟨b, off, rfl, _, _, c, d, -⟩ := hq.pair_at k hlt
      replace c := below_cell hB c
      replace d := below_cell hB d
      have hS' := hS.out
      rw [List.drop_eq_getElem_cons hlt, getS_cons] at hS'
      generalize l[k] = x at *
      by_cases he : x.name = name
      · rw [if_pos he] at hS'
        have HS := Lib.hid hS'
        have hb : (x.name.toList == name.toList) = true := by rw [he]; simp
        clear hS hS' he
        go_wp2
        repeat (go_quiet (fail); try go_wp2)
        go_ret2
        exact ⟨by rw [← HS.out]; rfl, by (repeat (first | assumption | exact Below.refl _ _ | apply Below.drew | apply below_drewN | refine below_alloc ?_ (Nat.le_refl _) _ | refine below_then ?_ (Nat.le_refl _) (by assumption)))⟩
      · rw [if_neg he] at hS'
        have HS := Lib.hid hS'
        have hb : (x.name.toList == name.toList) = false := by rw [beq_list]; simp [he]
        clear hS hS' he
        go_wp2
        go_roundw
        case rel => exact ⟨k + 1, by go_num, by omega, by (repeat (first | assumption | exact Below.refl _ _ | apply Below.drew | apply below_drewN | refine below_alloc ?_ (Nat.le_refl _) _ | refine below_then ?_ (Nat.le_refl _) (by assumption))), HS⟩
        case measure => simp [intOf]; omega
    · have hS' := hS.out
      rw [List.drop_eq_nil_of_le (by omega)] at hS'
      have HS := Lib.hid hS'
      clear hS hS'
      go_wp2
      go_ret2
      exact ⟨by rw [← HS.out]; rfl, hB⟩

theorem value_calls (l : List Pair) (q : Value) (name : ByteArray) (B : Nat → Prop) (w : World) (hq : Sl ePairS w B q l) :
    Calls Tryz.prog 75 #[q, .string name] w fun e w' => e = .returned (.tuple #[.string (getS l name).1, .bool (getS l name).2]) ∧ Below w.heap.size w w' := by
  obtain ⟨A, cap, rfl, hcap, hmax, -⟩ := hq.form
  go_enter Tryz.func75, Tryz.ntmps75
  go_wp2_with fail
  refine (get_calls _ l _ name B _ hq).mono ?_
  rintro e w1 ⟨rfl, hb⟩
  go_wp2
  go_ret2
  exact ⟨rfl, hb⟩

/-- Are two rows of parameters the same, in whatever order? -/
def alikeS (a b : List Pair) : Bool := decide (a.length = b.length) && a.all (fun p => (getS b p.name).2 && decide ((getS b p.name).1 = p.value))
theorem alike_calls (a b : List Pair) (u v : Value) (B : Nat → Prop) (w : World) (ha : Sl ePairS w B u a) (hb : Sl ePairS w B v b) :
    Calls Tryz.prog 59 #[u, v] w fun e w' => e = .returned (.bool (alikeS a b)) ∧ Below w.heap.size w w' := by
  obtain ⟨A, cap, rfl, hcap, hmax, -⟩ := ha.form
  obtain ⟨A2, cap2, rfl, hcap2, hmax2, -⟩ := hb.form
  unfold maxLen at hmax hmax2
  by_cases hl : a.length = b.length
  · have h1 : ((a.length : Int) != (b.length : Int)) = false := by simp [hl]
    have hd : alikeS a b = a.all (fun p => (getS b p.name).2 && decide ((getS b p.name).1 = p.value)) := by simp [alikeS, hl]
    have HD := Lib.hid hd
    clear hl hd
    go_enter Tryz.func59, Tryz.ntmps59
    go_wp2
    go_loopw [16] (fun i wr => ∃ k : Nat, i = .int .i64 k ∧ k ≤ a.length ∧ Below w.heap.size w wr ∧ Hid ((a.drop k).all (fun p => (getS b p.name).2 && decide ((getS b p.name).1 = p.value)) = alikeS a b)) (fun i _ => a.length - (intOf i).toNat)
    case atStart => exact ⟨0, rfl, by omega, Below.refl _ _, by rw [HD.out]; exact Lib.hid rfl⟩
    case round =>
      obtain ⟨k, rfl, hk, hB, hS⟩ := hrel
      by_cases hlt : k < a.length
      · obtain ⟨b0, off, rfl, _, _, c, d, -⟩ := ha.pair_at k hlt
        replace c := below_cell hB c
        replace d := below_cell hB d
        have hS' := hS.out
        rw [List.drop_eq_getElem_cons hlt, List.all_cons] at hS'
        generalize a[k] = x at *
        have hq : Hid (∀ o, Sl ePairS (wr.alloc o) B (.slice A2 b.length cap2) b) := fun o => hb.below (below_alloc hB (Nat.le_refl _) o)
        go_wp2_with fail
        refine (value_calls b (.slice A2 b.length cap2) x.name B _ (hq.out _)).mono ?_
        rintro e w1 ⟨rfl, hb1⟩
        have hz := hb1.size
        simp only [World.size_alloc] at hz
        have cd : w1.cell? ⟨wr.heap.size, 1, none⟩ = some (.string x.value) := by
          rw [hb1.cell (p := ⟨wr.heap.size, 1, none⟩) (by simp)]; simp
        have hw : Below w.heap.size w w1 := below_then (below_alloc hB (Nat.le_refl _) _) (Nat.le_refl _) hb1
        clear hb1 hq
        generalize getS b x.name = g at hS' ⊢
        obtain ⟨gv, gk⟩ := g
        simp only at hS' ⊢
        cases gk with
        | false =>
          simp only [Bool.false_and] at hS'
          have HS := Lib.hid hS'
          clear hS hS'
          go_wp2
          repeat (go_quiet (fail); try go_wp2)
          go_ret
          exact ⟨by rw [← HS.out]; rfl, by (repeat (first | assumption | exact Below.refl _ _ | apply Below.drew | apply below_drewN | refine below_alloc ?_ (Nat.le_refl _) _ | refine below_then ?_ (Nat.le_refl _) (by assumption)))⟩
        | true =>
          by_cases he : gv = x.value
          · have hb2 : (gv.toList == x.value.toList) = true := by rw [he]; simp
            simp only [he, decide_true, Bool.true_and] at hS'
            have HS := Lib.hid hS'
            clear hS hS' he
            go_wp2
            repeat (go_quiet (fail); try go_wp2)
            go_roundw
            case rel => exact ⟨k + 1, by go_num, by omega, by (repeat (first | assumption | exact Below.refl _ _ | apply Below.drew | apply below_drewN | refine below_alloc ?_ (Nat.le_refl _) _ | refine below_then ?_ (Nat.le_refl _) (by assumption))), HS⟩
            case measure => simp [intOf]; omega
          · have hb2 : (gv.toList == x.value.toList) = false := by rw [beq_list]; simp [he]
            simp only [he, decide_false, Bool.true_and, Bool.false_and] at hS'
            have HS := Lib.hid hS'
            clear hS hS' he
            go_wp2
            repeat (go_quiet (fail); try go_wp2)
            go_ret
            exact ⟨by rw [← HS.out]; rfl, by (repeat (first | assumption | exact Below.refl _ _ | apply Below.drew | apply below_drewN | refine below_alloc ?_ (Nat.le_refl _) _ | refine below_then ?_ (Nat.le_refl _) (by assumption)))⟩
      · have hS' := hS.out
        rw [List.drop_eq_nil_of_le (by omega)] at hS'
        have HS := Lib.hid hS'
        clear hS hS'
        go_wp2
        go_ret
        exact ⟨by rw [← HS.out]; rfl, hB⟩
  · have h1 : ((a.length : Int) != (b.length : Int)) = true := by simp; omega
    have hd : alikeS a b = false := by simp [alikeS, hl]
    have HD := Lib.hid hd
    clear hl hd
    go_enter Tryz.func59, Tryz.ntmps59
    go_wp2
    go_ret
    exact ⟨by rw [HD.out]; rfl, Below.refl _ _⟩

/-- May a URL be? -/
def rightS (u : URL) : Bool := decide (u.path.length ≤ 8) && decide (u.query.length ≤ 8) && u.path.all (fun s => textS s 1) && u.query.all (fun p => textS p.name 1 && textS p.value 0)
theorem right_calls (u : URL) (p q : Value) (B : Nat → Prop) (w : World) (hp : Sl eStr w B p u.path) (hq : Sl ePairS w B q u.query) :
    Calls Tryz.prog 24 #[.agg #[p, q]] w fun e w' => e = .returned (.bool (rightS u)) ∧ Below w.heap.size w w' := by
  obtain ⟨A, cap, rfl, hcap, hmax, -⟩ := hp.form
  obtain ⟨A2, cap2, rfl, hcap2, hmax2, -⟩ := hq.form
  obtain ⟨P, Qy⟩ := u
  simp only at *
  unfold maxLen at hmax hmax2
  by_cases h1 : P.length ≤ 8
  · have d1 : decide (8 < (P.length : Int)) = false := by simp; omega
    have d1' : decide (8 < P.length) = false := by simp; omega
    by_cases h2 : Qy.length ≤ 8
    · have d2 : decide (8 < (Qy.length : Int)) = false := by simp; omega
      have d2' : decide (8 < Qy.length) = false := by simp; omega
      have hd : rightS ⟨P, Qy⟩ = (P.all (fun s => textS s 1) && Qy.all (fun p => textS p.name 1 && textS p.value 0)) := by simp [rightS, h1, h2]
      have HD := Lib.hid hd
      clear hd
      go_enter Tryz.func24, Tryz.ntmps24
      go_wp2
      repeat (go_quiet (fail); try go_wp2)
      go_loopw [20] (fun i wr => ∃ k : Nat, i = .int .i64 k ∧ k ≤ P.length ∧ Below w.heap.size w wr ∧ Hid (wr.heap[w.heap.size]? = some (.cells #[.slice A P.length cap, .slice A2 Qy.length cap2] 32 (0, 0))) ∧ Hid ((P.drop k).all (fun s => textS s 1) = P.all (fun s => textS s 1))) (fun i _ => P.length - (intOf i).toNat)
      case atStart => exact ⟨0, rfl, by omega, by (repeat (first | assumption | exact Below.refl _ _ | apply Below.drew | apply below_drewN | refine below_alloc ?_ (Nat.le_refl _) _ | refine below_then ?_ (Nat.le_refl _) (by assumption))), Lib.hid (heap_alloc_new w _), Lib.hid rfl⟩
      case round =>
        obtain ⟨k, rfl, hk, hB, hb0, hS⟩ := hrel
        by_cases hlt : k < P.length
        · obtain ⟨b, off, rfl, _, _, c, hm⟩ := hp.str_at k hlt
          replace c := below_cell hB c
          have hS' := hS.out
          rw [List.drop_eq_getElem_cons hlt, List.all_cons] at hS'
          generalize P[k] = x at *
          go_wp2_with fail
          refine (text_calls x 1 _ hm).mono ?_
          rintro e w1 ⟨rfl, rfl⟩
          generalize textS x 1 = g at *
          cases g with
          | false =>
            rw [Bool.false_and] at hS'
            have HF := Lib.hid (show rightS ⟨P, Qy⟩ = false by rw [HD.out, ← hS']; rfl)
            clear hS hS' HD
            go_wp2
            go_ret
            exact ⟨by rw [HF.out]; rfl, hB⟩
          | true =>
            rw [Bool.true_and] at hS'
            have HS := Lib.hid hS'
            clear hS hS'
            go_wp2
            go_roundw
            case rel => exact ⟨k + 1, by go_num, by omega, hB, hb0, HS⟩
            case measure => simp [intOf]; omega
        · have hS' := hS.out
          rw [List.drop_eq_nil_of_le (by omega)] at hS'
          have HQ := Lib.hid (show Qy.all (fun p => textS p.name 1 && textS p.value 0) = rightS ⟨P, Qy⟩ by rw [HD.out, ← hS']; rfl)
          clear hS hS' HD
          have c1 : wr.cell? ⟨w.heap.size, 1, none⟩ = some (.slice A2 Qy.length cap2) := by have h := hb0.out; rw [cell_of_row wr _ _ _ _ _ h]; rfl
          clear hb0
          obtain ⟨wo, rfl⟩ : ∃ wo : World, wo = wr := ⟨_, rfl⟩
          go_wp2
          go_loopw [31] (fun i wr => ∃ k : Nat, i = .int .i64 k ∧ k ≤ Qy.length ∧ Below w.heap.size w wr ∧ Hid ((Qy.drop k).all (fun p => textS p.name 1 && textS p.value 0) = rightS ⟨P, Qy⟩)) (fun i _ => Qy.length - (intOf i).toNat)
          case atStart => exact ⟨0, rfl, by omega, by (repeat (first | assumption | exact Below.refl _ _ | apply Below.drew | apply below_drewN | refine below_alloc ?_ (Nat.le_refl _) _ | refine below_then ?_ (Nat.le_refl _) (by assumption))), by rw [← HQ.out]; exact Lib.hid rfl⟩
          case round =>
            clear c1
            obtain ⟨k, rfl, hk, hB, hS⟩ := hrel
            by_cases hlt : k < Qy.length
            · obtain ⟨b, off, rfl, _, _, c, d, m1, m2⟩ := hq.pair_at k hlt
              replace c := below_cell hB c
              replace d := below_cell hB d
              have hS' := hS.out
              rw [List.drop_eq_getElem_cons hlt, List.all_cons] at hS'
              generalize Qy[k] = x at *
              obtain ⟨xn, xv⟩ := x
              simp only at c d m1 m2 hS'
              generalize hg1 : textS xn 1 = g1 at *
              generalize hg2 : textS xv 0 = g2 at *
              have H1 := Lib.hid hg1
              have H2 := Lib.hid hg2
              clear hg1 hg2
              cases g1 with
              | false =>
                rw [Bool.false_and, Bool.false_and] at hS'
                have HS := Lib.hid hS'
                clear hS hS'
                go_wp2_with (go_at_call 43; refine (text_calls xn 1 _ m1).mono ?_; rintro e w1 ⟨rfl, rfl⟩; rw [H1.out])
                go_ret
                exact ⟨by rw [← HS.out]; rfl, by (repeat (first | assumption | exact Below.refl _ _ | apply Below.drew | apply below_drewN | refine below_alloc ?_ (Nat.le_refl _) _ | refine below_then ?_ (Nat.le_refl _) (by assumption)))⟩
              | true =>
                rw [Bool.true_and] at hS'
                cases g2 with
                | false =>
                  rw [Bool.false_and] at hS'
                  have HS := Lib.hid hS'
                  clear hS hS'
                  go_wp2_with (go_at_call 43; refine (text_calls _ _ _ (by first | exact m1 | exact m2)).mono ?_; rintro e w1 ⟨rfl, rfl⟩; first | rw [H1.out] | rw [H2.out])
                  go_ret
                  exact ⟨by rw [← HS.out]; rfl, by (repeat (first | assumption | exact Below.refl _ _ | apply Below.drew | apply below_drewN | refine below_alloc ?_ (Nat.le_refl _) _ | refine below_then ?_ (Nat.le_refl _) (by assumption)))⟩
                | true =>
                  rw [Bool.true_and] at hS'
                  have HS := Lib.hid hS'
                  clear hS hS'
                  go_wp2_with (go_at_call 43; refine (text_calls _ _ _ (by first | exact m1 | exact m2)).mono ?_; rintro e w1 ⟨rfl, rfl⟩; first | rw [H1.out] | rw [H2.out])
                  go_roundw
                  case rel => exact ⟨k + 1, by go_num, by omega, by (repeat (first | assumption | exact Below.refl _ _ | apply Below.drew | apply below_drewN | refine below_alloc ?_ (Nat.le_refl _) _ | refine below_then ?_ (Nat.le_refl _) (by assumption))), HS⟩
                  case measure => simp [intOf]; omega
            · have hS' := hS.out
              rw [List.drop_eq_nil_of_le (by omega)] at hS'
              have HS := Lib.hid hS'
              clear hS hS'
              go_wp2
              go_ret
              exact ⟨by rw [← HS.out]; rfl, hB⟩
    · have d2 : decide (8 < (Qy.length : Int)) = true := by simp; omega
      have d2' : decide (8 < Qy.length) = true := by simp; omega
      have hd : rightS ⟨P, Qy⟩ = false := by simp [rightS, h2]
      have HD := Lib.hid hd
      clear hd
      go_enter Tryz.func24, Tryz.ntmps24
      go_wp2
      repeat (go_quiet (fail); try go_wp2)
      go_ret
      exact ⟨by rw [HD.out]; rfl, by (repeat (first | assumption | exact Below.refl _ _ | apply Below.drew | apply below_drewN | refine below_alloc ?_ (Nat.le_refl _) _ | refine below_then ?_ (Nat.le_refl _) (by assumption)))⟩
  · have d1 : decide (8 < (P.length : Int)) = true := by simp; omega
    have d1' : decide (8 < P.length) = true := by simp; omega
    have hd : rightS ⟨P, Qy⟩ = false := by simp [rightS, h1]
    have HD := Lib.hid hd
    clear hd
    go_enter Tryz.func24, Tryz.ntmps24
    go_wp2
    repeat (go_quiet (fail); try go_wp2)
    go_ret
    exact ⟨by rw [HD.out]; rfl, by (repeat (first | assumption | exact Below.refl _ _ | apply Below.drew | apply below_drewN | refine below_alloc ?_ (Nat.le_refl _) _ | refine below_then ?_ (Nat.le_refl _) (by assumption)))⟩
end Go.Proofs.YtejbkjndipineaaGreatDoor
