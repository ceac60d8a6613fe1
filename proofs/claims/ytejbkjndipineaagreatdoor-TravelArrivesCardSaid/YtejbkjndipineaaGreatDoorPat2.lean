/- Walks of strings.Join (by the shelf), pattern.rest, pattern.unrest, pattern.path. -/
import Derived.Test.YtejbkjndipineaaGreatDoorPat
import Derived.Test.YtejbkjndipineaaGreatDoorPrint
namespace Go.Proofs.YtejbkjndipineaaGreatDoor
open Go Go.RowKit PR
set_option linter.unusedVariables false
set_option linter.unusedSimpArgs false
set_option maxHeartbeats 400000
set_option maxRecDepth 100000

theorem join_calls (xs : List ByteArray) (sep : ByteArray) (v : Value) (B : Nat → Prop) (w : World) (hl : Sl eStr w B v xs) (hlen : (Lib.join (xs.map (·.data.toList)) sep.data.toList).length ≤ 140737488355328) (hn : xs.length ≤ 16777216) :
    Calls Tryz.prog 90 #[v, .string sep] w fun e w' => e = .returned (.string ⟨(Lib.join (xs.map (·.data.toList)) sep.data.toList).toArray⟩) ∧ Below w.heap.size w w' := by
  obtain ⟨A, cap, rfl, hcap, hmax, -⟩ := hl.form
  by_cases h0 : 0 < xs.length
  · obtain ⟨b, off, rfl, -, hb, -, -⟩ := hl.str_at 0 h0
    refine Tryz.strings_Join b off cap xs sep w (fun j x hj => ?_) hb (by omega) hcap hlen
    obtain ⟨hj', rfl⟩ := List.getElem?_eq_some_iff.1 hj
    obtain ⟨b', off', e, -, -, c, -⟩ := hl.str_at j hj'
    cases e
    exact c
  · have : xs = [] := List.eq_nil_of_length_eq_zero (by omega)
    subst this
    refine (Tryz.strings_Join_none A cap sep w).mono ?_
    rintro e w' ⟨rfl, rfl⟩
    exact ⟨rfl, Below.refl _ _⟩

/-- A path as a rest's value. -/
def restS (xs : List ByteArray) : ByteArray := ⟨(Lib.join (xs.map (fun x => encL x.data.toList)) [47]).toArray⟩
theorem join_len (sep : List UInt8) (n : Nat) : ∀ (xs : List (List UInt8)), (∀ x ∈ xs, x.length ≤ n) → (Lib.join xs sep).length ≤ xs.length * (n + sep.length)
  | [], _ => by simp [Lib.join]
  | [x], h => by
    have := h x (by simp)
    simp [Lib.join]
    omega
  | x :: y :: r, h => by
    have h1 := h x (by simp)
    have h2 := join_len sep n (y :: r) (fun z hz => h z (by simp [hz]))
    have e : (x :: y :: r).length * (n + sep.length) = (n + sep.length) + (y :: r).length * (n + sep.length) := by rw [List.length_cons, Nat.add_mul]; omega
    have e2 : Lib.join (x :: y :: r) sep = x ++ (sep ++ Lib.join (y :: r) sep) := by simp [Lib.join]
    rw [e, e2, List.length_append, List.length_append]
    generalize (y :: r).length * (n + sep.length) = q at *
    omega
theorem encS_data (s : ByteArray) : (encS s).data.toList = encL s.data.toList := by simp [encS]

theorem rest_calls (xs : List ByteArray) (v : Value) (B : Nat → Prop) (w : World) (hl : Sl eStr w B v xs) (h8 : xs.length ≤ 4096) (hs : ∀ x ∈ xs, x.size ≤ 16777216) :
    Calls Tryz.prog 74 #[v] w fun e w' => e = .returned (.string (restS xs)) ∧ Below w.heap.size w w' := by
  obtain ⟨A, cap, rfl, hcap, hmax, -⟩ := hl.form
  unfold maxLen at hmax
  go_enter Tryz.func74, Tryz.ntmps74
  go_wp2
  go_loopw [3, 8] (fun v i wr => ∃ k : Nat, i = .int .i64 k ∧ k ≤ xs.length ∧ Ow eStr 9 wr (fun _ => False) v ((xs.take k).map encS) ∧ (∀ g, v.ownBlock = some g → w.heap.size ≤ g) ∧ Below w.heap.size w wr) (fun _ i _ => xs.length - (intOf i).toNat)
  case atStart => exact ⟨0, rfl, by omega, Ow.nil _ _ _ _, by simp [Value.ownBlock], Below.refl _ _⟩
  case round =>
    obtain ⟨k, rfl, hk, hown, hgb, hB⟩ := hrel
    by_cases hlt : k < xs.length
    · obtain ⟨b, off, rfl, -, -, c, -⟩ := hl.str_at k hlt
      have hxs := hs xs[k] (List.getElem_mem hlt)
      replace c := below_cell hB c
      have HT := Lib.hid (show (xs.take (k + 1)).map encS = (xs.take k).map encS ++ [encS xs[k]] by rw [List.take_succ_eq_append_getElem hlt, List.map_append]; rfl)
      have hle : Hid (((xs.take k).map encS).length = k) := Lib.hid (by rw [List.length_map, List.length_take]; omega)
      generalize xs[k] = x at *
      generalize (xs.take k).map encS = acc at *
      have hac : acc.length ≤ k := by rw [hle.out]; exact Nat.le_refl _
      obtain ⟨A0, cap0, rfl, hc0, hm0⟩ := hown.form
      unfold maxLen at hm0
      obtain ⟨wo, rfl⟩ : ∃ wo : World, wo = wr := ⟨_, rfl⟩
      go_wp2_with fail
      refine (encode_calls x _ (by omega)).mono ?_
      rintro e w2 ⟨rfl, hb2⟩
      have hex := encS_size x
      have hown2 := (hown.below hb2).plain (fun _ c => c.1)
      have hB2 := below_then hB (Nat.le_refl _) hb2
      generalize encS x = y at *
      clear hb2 hown
      go_wp2_with (at_builtin; refine wp_app eStr rfl (.tmp 12) (.tmp 15) 29 9 rfl Tryz.underlying29 (.string ⟨#[]⟩) 16 infoStr rfl (by decide) (fun _ => False) _ acc rfl ?own _ [y] rfl ?src ?c3 ?c4 ?_)
      case own => exact (hown2.below (below_alloc (Below.refl _ _) (Nat.le_refl _) _)).plain (fun _ c => c.1)
      case src => exact one_new eStr w2 (fun _ => False) y _ 9 ⟨rfl, by unfold maxLen; omega⟩ (fun b c => False.elim c)
      case c3 => unfold maxLen; show acc.length + 1 ≤ _; omega
      case c4 => show (acc.length + 1) * 16 ≤ _; omega
      intro v' w' hown' hg' hv'
      have hgb' := app_own (B := w.heap.size) (w2 := w2) (o := .cells #[.string y] 9) (by simpa using hv') hgb (by have := hB2.size; omega)
      have hBn := app_below hB2 (Nat.le_refl _) hg' hgb
      clear hown2 hv' hg' hB2
      go_wp2
      go_roundw
      case rel => exact ⟨k + 1, by go_num, by omega, by rw [HT.out]; exact hown', hgb', hBn⟩
      case measure => simp [intOf]; omega
    · have hS := hown.sl (B := fun _ => True) (fun _ _ _ => trivial) (fun _ _ => trivial)
      rw [List.take_of_length_le (by omega)] at hS
      have e0 : (xs.map encS).map (·.data.toList) = xs.map (fun x => encL x.data.toList) := by simp [encS]
      have hlen : (Lib.join ((xs.map encS).map (·.data.toList)) (⟨#[47]⟩ : ByteArray).data.toList).length ≤ 140737488355328 := by
        rw [e0]
        have := join_len [47] (3 * 16777216) (xs.map (fun x => encL x.data.toList)) (fun y hy => by
          obtain ⟨x, hx, rfl⟩ := List.mem_map.1 hy
          have h1 := encS_size x
          have h2 := hs x hx
          have h3 : (encL x.data.toList).length = (encS x).size := rfl
          omega)
        rw [List.length_map, show ([47] : List UInt8).length = 1 from rfl] at this
        refine Nat.le_trans this ?_
        have := Nat.mul_le_mul h8 (Nat.le_refl (3 * 16777216 + 1))
        omega
      have HJ := Lib.hid (show (⟨(Lib.join ((xs.map encS).map (·.data.toList)) (⟨#[47]⟩ : ByteArray).data.toList).toArray⟩ : ByteArray) = restS xs by rw [e0]; rfl)
      clear e0
      have hn : (xs.map encS).length ≤ 16777216 := by rw [List.length_map]; omega
      go_wp2_with fail
      refine (join_calls (xs.map encS) ⟨#[47]⟩ _ _ _ hS hlen hn).mono ?_
      rintro e w2 ⟨rfl, hb2⟩
      rw [HJ.out]
      go_wp2
      go_ret
      exact ⟨rfl, below_then hB (Nat.le_refl _) hb2⟩

/-- The path of a rest's value. -/
def unrestS (s : ByteArray) : List ByteArray × Bool := if s.size = 0 then ([], true) else decAll [] (spS 47 s)

theorem unrest_calls (s : ByteArray) (w : World) (hs : s.size ≤ 16777216) (hg : GV w) :
    Calls Tryz.prog 76 #[.string s] w fun e w' => ∃ v, e = .returned (.tuple #[v, .bool (unrestS s).2]) ∧ Sl eStr w' (fun b => w.heap.size ≤ b) v (unrestS s).1 ∧ Below w.heap.size w w' := by
  by_cases hz : s.size = 0
  · have hr : s = ⟨#[]⟩ := by
      obtain ⟨⟨l⟩⟩ := s
      have : l = [] := List.eq_nil_of_length_eq_zero hz
      rw [this]
    subst hr
    go_enter Tryz.func76, Tryz.ntmps76
    go_wp2
    go_ret2
    exact ⟨_, rfl, Sl.nil _ _ _, Below.refl _ _⟩
  · have e0 : s.toList.isEmpty = false := by rw [empty_beq]; simp [hz]
    have e1 : (s.toList == []) = false := by
      cases h : s.toList with
      | nil => rw [h] at e0; cases e0
      | cons a b => rfl
    have HP := Lib.hid (show unrestS s = decAll [] (spS 47 s) by unfold unrestS; rw [if_neg hz])
    clear hz
    go_enter Tryz.func76, Tryz.ntmps76
    go_wp2_with fail
    refine (split_calls s 47 _ hs hg).mono ?_
    rintro e w1 ⟨A, cap, rfl, hsl, hb1⟩
    have hds : ∀ x ∈ spS 47 s, x.size ≤ s.size := fun x hx => spS_size _ _ x hx
    generalize spS 47 s = xs at *
    have hml := hsl.len_eq.2
    unfold maxLen at hml
    have HG := Lib.hid hg
    clear hg
    have hz1 := hb1.size
    go_wp2
    go_loopw [4, 14] (fun v i wr => ∃ (k : Nat) (acc : List ByteArray), i = .int .i64 k ∧ k ≤ xs.length ∧ acc.length ≤ 8 ∧ Ow eStr 9 wr (fun _ => False) v acc ∧ (∀ g, v.ownBlock = some g → w1.heap.size ≤ g) ∧ Below w1.heap.size w1 wr ∧ Hid (decAll acc (xs.drop k) = unrestS s)) (fun _ i _ => xs.length - (intOf i).toNat)
    case atStart => exact ⟨0, [], rfl, by omega, by simp, Ow.nil _ _ _ _, by simp [Value.ownBlock], Below.refl _ _, Lib.hid (by rw [HP.out]; rfl)⟩
    case round =>
      obtain ⟨k, acc, rfl, hk, h8, hown, hgb, hB, hD⟩ := hrel
      have hBw := below_then hb1 (Nat.le_refl _) hB
      by_cases hlt : k < xs.length
      · obtain ⟨b, off, rfl, -, -, c, -⟩ := hsl.str_at k hlt
        have hxs := hds xs[k] (List.getElem_mem hlt)
        replace c := below_cell hB c
        have hD' := hD.out
        rw [List.drop_eq_getElem_cons hlt, decAll] at hD'
        generalize xs[k] = x at *
        have hdz := decS_size x
        clear hD
        have HDz := Lib.hid hdz
        obtain ⟨A0, cap0, rfl, hc0, hm0⟩ := hown.form
        unfold maxLen at hm0
        go_wp2_with fail
        refine (decode_calls x _ (by omega)).mono ?_
        rintro e w2 ⟨rfl, hb2⟩
        generalize decS x = d at hD' HDz ⊢
        obtain ⟨dv, dk⟩ := d
        simp only at hD' HDz ⊢
        have hown2 := (hown.below hb2).plain (fun _ c => c.1)
        have hB2 := below_then hB (Nat.le_refl _) hb2
        have hBw2 := below_then hBw (Nat.le_refl _) hb2
        have hz2 := hb2.size
        clear hb2 hown hdz
        cases dk with
        | false =>
          rw [if_pos (.inl rfl)] at hD'
          have HD := Lib.hid hD'
          clear hD'
          go_wp2
          go_ret2
          exact ⟨_, by rw [← HD.out]; rfl, by rw [← HD.out]; exact Sl.nil _ _ _, hBw2⟩
        | true =>
          by_cases h8' : acc.length = 8
          · rw [if_pos (.inr h8')] at hD'
            have hq : ((acc.length : Int) == 8) = true := by simp [h8']
            have HD := Lib.hid hD'
            clear hD' h8'
            go_wp2
            go_ret2
            exact ⟨_, by rw [← HD.out]; rfl, by rw [← HD.out]; exact Sl.nil _ _ _, hBw2⟩
          · rw [if_neg (by simp [h8'])] at hD'
            have hq : ((acc.length : Int) == 8) = false := by simp; omega
            have HD := Lib.hid hD'
            have h7 : acc.length ≤ 7 := by omega
            clear hD' h8'
            go_wp2_with (at_builtin; refine wp_app eStr rfl (.tmp 30) (.tmp 32) 29 9 rfl Tryz.underlying29 (.string ⟨#[]⟩) 16 infoStr rfl (by decide) (fun _ => False) _ acc rfl ?own _ [dv] rfl ?src ?c3 ?c4 ?_)
            case own => exact (hown2.below (below_alloc (Below.refl _ _) (Nat.le_refl _) _)).plain (fun _ c => c.1)
            case src => exact one_new eStr w2 (fun _ => False) dv _ 9 ⟨rfl, by have := HDz.out; unfold maxLen; omega⟩ (fun b c => False.elim c)
            case c3 => unfold maxLen; show acc.length + 1 ≤ _; omega
            case c4 => show (acc.length + 1) * 16 ≤ _; omega
            intro v' w' hown' hg' hv'
            have hgb' := app_own (B := w1.heap.size) (w2 := w2) (o := .cells #[.string dv] 9) (by simpa using hv') hgb (by have := hB2.size; omega)
            have hBn := app_below hB2 (Nat.le_refl _) hg' hgb
            clear hown2 hv' hg' hBw2 HDz
            go_wp2
            go_roundw
            case rel => exact ⟨k + 1, acc ++ [dv], by go_num, by omega, by simp; omega, hown', hgb', hBn, HD⟩
            case measure => simp [intOf]; omega
      · have hD' := hD.out
        rw [List.drop_eq_nil_of_le (by omega), decAll] at hD'
        have HD := Lib.hid hD'
        clear hD hD'
        go_wp2
        go_ret2
        exact ⟨_, by rw [← HD.out]; rfl, by rw [← HD.out]; exact hown.sl (fun _ c _ => False.elim c) (fun g hg => by have := hgb g hg; omega), hBw⟩
end Go.Proofs.YtejbkjndipineaaGreatDoor
