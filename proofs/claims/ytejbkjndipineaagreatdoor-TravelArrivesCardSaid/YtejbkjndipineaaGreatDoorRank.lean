/- Walks of cmp.Compare at strings, rank.Compare. Walk of rank.Sorted's closure. -/
import Derived.Test.YtejbkjndipineaaGreatDoorBase
import Derived.Test.YtejbkjndipineaaGreatDoorShelf
import Derived.Laws.Cover1
import Derived.Test.YtejbkjndipineaaGreatDoorOp2
namespace Go.Proofs.YtejbkjndipineaaGreatDoor
open Go Go.RowKit PR
set_option linter.unusedVariables false
set_option linter.unusedSimpArgs false
set_option maxHeartbeats 400000
set_option maxRecDepth 100000

theorem nan_calls (s : ByteArray) (w : World) : Calls Tryz.prog 107 #[.string s] w fun e w' => e = .returned (.bool false) ∧ w' = w := by
  go_enter Tryz.func107, Tryz.ntmps107
  go_wp2
  go_ret
  exact ⟨rfl, rfl⟩

def compareStr (a b : ByteArray) : Int := if Op.bytesLess a.toList b.toList then -1 else if !(Op.bytesLess a.toList b.toList || a.toList == b.toList) then 1 else 0
theorem cmpStr_calls (a b : ByteArray) (w : World) : Calls Tryz.prog 87 #[.string a, .string b] w fun e w' => e = .returned (.int .i64 (compareStr a b)) ∧ w' = w := by
  unfold compareStr
  cases h1 : Op.bytesLess a.toList b.toList <;> cases h2 : (a.toList == b.toList)
  all_goals
    go_enter Tryz.func87, Tryz.ntmps87
    go_wp2_with fail
    refine (nan_calls a _).mono ?_
    rintro e w1 ⟨rfl, rfl⟩
    go_wp2_with fail
    refine (nan_calls b _).mono ?_
    rintro e w2 ⟨rfl, rfl⟩
    go_wp2
    all_goals go_ret
    all_goals exact ⟨rfl, rfl⟩

/-- The first number that is not nought. -/
def fz {α : Type} (f : α → Int) : List α → Int
  | [] => 0
  | x :: xs => if f x = 0 then fz f xs else f x
def kindC (p : Seg × Seg) : Int := Lib.compareInt p.1.kind p.2.kind
def textC (p : Seg × Seg) : Int := compareStr p.1.text p.2.text
def compareS (a b : List Seg) : Int :=
  if fz kindC (a.zip b) = 0 then (if Lib.compareInt b.length a.length = 0 then fz textC (a.zip b) else Lib.compareInt b.length a.length) else fz kindC (a.zip b)
theorem cmp_wf (x y : Int) : Lib.compareInt x y = -1 ∨ Lib.compareInt x y = 0 ∨ Lib.compareInt x y = 1 := by unfold Lib.compareInt; split <;> (try split) <;> simp

theorem drewN_ex {w wo : World} {q : Nat} (h : w.drewN q = wo) (n : Nat) : ∃ q', wo.drewN n = w.drewN q' := ⟨q + n, by rw [← h]; simp [World.drewN, Nat.add_assoc]⟩

theorem compare_calls (a b : List Seg) (u v : Value) (B : Nat → Prop) (w : World) (ha : Sl eSeg w B u a) (hb : Sl eSeg w B v b) :
    Calls Tryz.prog 70 #[u, v] w fun e w' => e = .returned (.int .i64 (compareS a b)) ∧ ∃ q, w' = w.drewN q := by
  obtain ⟨A, cap, rfl, hcap, hmax, -⟩ := ha.form
  obtain ⟨A2, cap2, rfl, hcap2, hmax2, -⟩ := hb.form
  unfold maxLen at hmax hmax2
  have hz : (a.zip b).length = min a.length b.length := List.length_zip
  have hml1 : min a.length b.length ≤ a.length := Nat.min_le_left _ _
  have hml2 : min a.length b.length ≤ b.length := Nat.min_le_right _ _
  have HS : Hid (∀ k1 k2 k3, fz kindC (a.zip b) = k1 → Lib.compareInt b.length a.length = k2 → fz textC (a.zip b) = k3 → compareS a b = if k1 = 0 then (if k2 = 0 then k3 else k2) else k1) := by
    refine Lib.hid ?_
    rintro k1 k2 k3 rfl rfl rfl
    rfl
  have hmin : (if (b.length : Int) < (a.length : Int) then (b.length : Int) else (a.length : Int)) = ((min a.length b.length : Nat) : Int) := by
    split <;> omega
  go_enter Tryz.func70, Tryz.ntmps70
  go_wp2
  rw [show min (a.length : Int) (b.length : Int) = ((min a.length b.length : Nat) : Int) by omega]
  generalize min a.length b.length = n at *
  go_loopw [17] (fun i wr => ∃ k : Nat, k ≤ n ∧ i = .int .i64 k ∧ (∃ q, wr = w.drewN q) ∧ Hid (fz kindC ((a.zip b).drop k) = fz kindC (a.zip b))) (fun i _ => n - (intOf i).toNat)
  case atStart => exact ⟨0, by omega, rfl, ⟨0, rfl⟩, Lib.hid rfl⟩
  case round =>
    obtain ⟨k, hk, rfl, ⟨q, rfl⟩, hS⟩ := hrel
    by_cases hlt : k < n
    · obtain ⟨ba, oa, rfl, -, -, ca, -, -⟩ := ha.seg_at k (by omega)
      obtain ⟨bb, ob, rfl, -, -, cb, -, -⟩ := hb.seg_at k (by omega)
      have hS' := hS.out
      rw [List.drop_eq_getElem_cons (by omega), fz, List.getElem_zip] at hS'
      have hK := show kindC (a[k], b[k]) = Lib.compareInt a[k].kind b[k].kind from rfl
      rw [hK] at hS'
      generalize a[k] = x at *
      generalize b[k] = y at *
      have hla : k < a.length := by omega
      have hlb : k < b.length := by omega
      replace ca : (w.drewN q).cell? _ = _ := ca
      replace cb : (w.drewN q).cell? _ = _ := cb
      generalize hwo : w.drewN q = wo at *
      have HW := Lib.hid hwo
      clear hwo hS hK
      go_wp2_with fail
      go_quiet ((go_at_call 86; exact Calls.quiet_of_same (Tryz.cmp_Compare_int _ _ _)))
      cases hc : Lib.compareInt x.kind y.kind == 0 with
      | true =>
        have hc1 : (Lib.compareInt x.kind y.kind != 0) = false := by simp at hc; simp [hc]
        rw [if_pos (by simpa using hc)] at hS'
        have HS' := Lib.hid hS'
        clear hS' hc
        generalize Lib.compareInt x.kind y.kind = c at *
        go_wp2
        go_roundw
        case rel => exact ⟨k + 1, by omega, by go_num, drewN_ex HW.out _, HS'⟩
        case measure => simp [intOf]; omega
      | false =>
        have hc1 : (Lib.compareInt x.kind y.kind != 0) = true := by simp at hc; simp [hc]
        have hc2 : Lib.compareInt x.kind y.kind ≠ 0 := by simpa using hc
        rw [if_neg hc2] at hS'
        have HR := Lib.hid (show compareS a b = Lib.compareInt x.kind y.kind by rw [HS.out _ _ _ hS'.symm rfl rfl, if_neg hc2])
        clear hS' hc hc2
        go_wp2
        go_ret
        exact ⟨by rw [HR.out]; rfl, drewN_ex HW.out _⟩
    · have hS' := hS.out
      rw [List.drop_eq_nil_of_le (by omega), fz] at hS'
      have HK := Lib.hid hS'
      clear hS hS'
      generalize hwo : w.drewN q = wo at *
      have HW := Lib.hid hwo
      clear hwo
      go_wp2_with fail
      refine (Tryz.cmp_Compare_int _ _ _).mono ?_
      rintro e w1 ⟨rfl, rfl⟩
      cases hc : Lib.compareInt b.length a.length == 0 with
      | false =>
        have hc1 : (Lib.compareInt b.length a.length != 0) = true := by simp at hc; simp [hc]
        have hc2 : Lib.compareInt b.length a.length ≠ 0 := by simpa using hc
        have HR := Lib.hid (show compareS a b = Lib.compareInt b.length a.length by rw [HS.out _ _ _ HK.out.symm rfl rfl, if_pos rfl, if_neg hc2])
        clear hc hc2
        go_wp2
        go_ret
        exact ⟨by rw [HR.out]; rfl, q, HW.out.symm⟩
      | true =>
        have hc1 : (Lib.compareInt b.length a.length != 0) = false := by simp at hc; simp [hc]
        have HR := Lib.hid (show compareS a b = fz textC (a.zip b) by rw [HS.out _ _ _ HK.out.symm rfl rfl, if_pos rfl, if_pos (by simpa using hc)])
        clear hc HS
        go_wp2
        go_loopw [44] (fun i wr => ∃ k : Nat, k ≤ n ∧ i = .int .i64 k ∧ (∃ q, wr = w.drewN q) ∧ Hid (fz textC ((a.zip b).drop k) = fz textC (a.zip b))) (fun i _ => n - (intOf i).toNat)
        case atStart => exact ⟨0, by omega, rfl, ⟨q, HW.out.symm⟩, Lib.hid rfl⟩
        case round =>
          clear HW hk
          obtain ⟨k, hk, rfl, ⟨q, rfl⟩, hS⟩ := hrel
          by_cases hlt : k < n
          · obtain ⟨ba, oa, rfl, -, -, -, ca, -⟩ := ha.seg_at k (by omega)
            obtain ⟨bb, ob, rfl, -, -, -, cb, -⟩ := hb.seg_at k (by omega)
            have hS' := hS.out
            rw [List.drop_eq_getElem_cons (by omega), fz, List.getElem_zip] at hS'
            have hK := show textC (a[k], b[k]) = compareStr a[k].text b[k].text from rfl
            rw [hK] at hS'
            generalize a[k] = x at *
            generalize b[k] = y at *
            have hla : k < a.length := by omega
            have hlb : k < b.length := by omega
            replace ca : (w.drewN q).cell? _ = _ := ca
            replace cb : (w.drewN q).cell? _ = _ := cb
            generalize hwo : w.drewN q = wo at *
            have HW := Lib.hid hwo
            clear hwo hS hK
            go_wp2_with fail
            go_quiet ((go_at_call 87; exact Calls.quiet_of_same (cmpStr_calls _ _ _)))
            cases hc : compareStr x.text y.text == 0 with
            | true =>
              have hc1 : (compareStr x.text y.text != 0) = false := by simp at hc; simp [hc]
              rw [if_pos (by simpa using hc)] at hS'
              have HS' := Lib.hid hS'
              clear hS' hc
              generalize compareStr x.text y.text = c at *
              go_wp2
              go_roundw
              case rel => exact ⟨k + 1, by omega, by go_num, drewN_ex HW.out _, HS'⟩
              case measure => simp [intOf]; omega
            | false =>
              have hc1 : (compareStr x.text y.text != 0) = true := by simp at hc; simp [hc]
              have hc2 : compareStr x.text y.text ≠ 0 := by simpa using hc
              rw [if_neg hc2] at hS'
              have HR2 := Lib.hid (show compareS a b = compareStr x.text y.text by rw [HR.out, ← hS'])
              clear hS' hc hc2
              go_wp2
              go_ret
              exact ⟨by rw [HR2.out]; rfl, drewN_ex HW.out _⟩
          · have hS' := hS.out
            rw [List.drop_eq_nil_of_le (by omega), fz] at hS'
            have HR2 := Lib.hid (show compareS a b = 0 by rw [HR.out, ← hS'])
            clear hS hS'
            go_wp2
            go_ret
            exact ⟨by rw [HR2.out]; rfl, q, rfl⟩

open Go Go.RowKit PR
set_option linter.unusedVariables false
set_option linter.unusedSimpArgs false
set_option maxHeartbeats 400000
set_option maxRecDepth 100000

theorem quiet_of_drew {P : Program} {f : FuncId} {args : Array Value} {w : World} {n : Nat} {v : Value}
    (h : Calls P f args (w.drewN n) fun e w' => e = .returned v ∧ ∃ q, w' = (w.drewN n).drewN q) : Calls P f args (w.drewN n) fun e w'' => e = .returned v ∧ ∃ m, w'' = w.drewN m :=
  h.mono fun _ _ ⟨he, q, hq⟩ => ⟨he, n + q, by rw [hq]; simp [World.drewN, Nat.add_assoc]⟩
theorem PR.Sl.drewN {α : Type} {d : Enc α} {w : World} {B : Nat → Prop} {v : Value} {xs : List α} (h : Sl d w B v xs) (n : Nat) : Sl d (w.drewN n) B v xs := Sl.move (w := w) (w' := w.drewN n) (fun b hB _ => ⟨hB, rfl⟩) h

theorem less_calls (ls : List (List Seg)) (v : Value) (B : Nat → Prop) (bx : Nat) (w : World) (hb : w.cell? ⟨bx, 0, none⟩ = some v) (hl : Sl (eSl eSeg) w B v ls) (x y : Nat) (hx : x < ls.length) (hy : y < ls.length) :
    Calls Tryz.prog 69 (#[.int .i64 (x : Int), .int .i64 (y : Int)] ++ #[.pointer (some ⟨bx, 0, none⟩)]) w fun e w' => e = .returned (.int .i64 (compareS ls[x] ls[y])) ∧ ∃ q, w' = w.drewN q := by
  obtain ⟨A, cap, rfl, hcap, hmax, -⟩ := hl.form
  unfold maxLen at hmax
  obtain ⟨ba, oa, va, rfl, -, -, ca, hva⟩ := hl.sl_at x hx
  obtain ⟨bb, ob, vb, e, -, -, cb, hvb⟩ := hl.sl_at y hy
  cases e
  generalize ls[x] = X at *
  generalize ls[y] = Y at *
  have hC := Lib.hid (fun n => compare_calls X Y va vb B (w.drewN n) (hva.drewN n) (hvb.drewN n))
  have hx0 : (0 : Int) ≤ (x : Int) := by omega
  have hy0 : (0 : Int) ≤ (y : Int) := by omega
  go_enter Tryz.func69, Tryz.ntmps69
  go_wp2_with fail
  go_quiet ((go_at_call 70; exact quiet_of_drew (hC.out _)))
  go_wp2
  go_ret
  exact ⟨rfl, _, rfl⟩
end Go.Proofs.YtejbkjndipineaaGreatDoor
