/- Walks of strings.Split and strings.Cut at one byte (by the shelf's contracts), url.path, url.query. -/
import Derived.Test.YtejbkjndipineaaGreatDoorDec
import Derived.Test.YtejbkjndipineaaGreatDoorUrl
import Derived.Lib.SplitLaws
namespace Go.Proofs.YtejbkjndipineaaGreatDoor
open Go Go.RowKit PR
set_option linter.unusedVariables false
set_option linter.unusedSimpArgs false
set_option maxHeartbeats 400000
set_option maxRecDepth 100000

/-- The library's variable that its searches read. -/
def GV (w : World) : Prop := ∃ m, w.cell? ⟨0, 0, none⟩ = some (.int .i64 m)
theorem GV.below {w w' : World} (h : GV w) (hb : Below w.heap.size w w') : GV w' := by obtain ⟨m, h⟩ := h; exact ⟨m, below_cell hb h⟩
theorem GV.ch {S : Nat → Prop} {w w' : World} (h : GV w) (hb : Ch S w w') (hS : ¬ S 0) : GV w' := by obtain ⟨m, h⟩ := h; exact ⟨m, hb.cell h hS⟩

/-- A text's pieces between a byte. -/
def spS (c : UInt8) (s : ByteArray) : List ByteArray := Lib.splitB ⟨#[c]⟩ 0 (Lib.countB s ⟨#[c]⟩) s
theorem splitB_size (sep : ByteArray) : ∀ (k : Nat) (s x : ByteArray), x ∈ Lib.splitB sep 0 k s → x.size ≤ s.size
  | 0, s, x, h => by simp [Lib.splitB] at h; rw [h]; exact Nat.le_refl _
  | k + 1, s, x, h => by
    unfold Lib.splitB at h
    split at h
    · simp at h; rw [h]; exact Nat.le_refl _
    · rcases List.mem_cons.1 h with rfl | h
      · rw [ByteArray.size_extract]; omega
      · have := splitB_size sep k _ x h
        rw [ByteArray.size_extract] at this
        omega
theorem spS_size (c : UInt8) (s x : ByteArray) (h : x ∈ spS c s) : x.size ≤ s.size := splitB_size _ _ _ _ h
theorem spS_len (c : UInt8) (s : ByteArray) : (spS c s).length = Lib.countB s ⟨#[c]⟩ + 1 := Lib.splitB_all ⟨#[c]⟩ (Nat.le_refl _) 0 _ s rfl

theorem count_le (c : UInt8) : ∀ (n : Nat) (s : ByteArray), s.size ≤ n → Lib.countB s ⟨#[c]⟩ ≤ s.size
  | n, s, hn => by
    rcases Lib.indexB_cases s ⟨#[c]⟩ with h | ⟨i, h, hi⟩
    · rw [Lib.countB_miss _ _ h]; exact Nat.zero_le _
    · have h1 : (⟨#[c]⟩ : ByteArray).size = 1 := rfl
      rw [h1] at hi
      cases n with
      | zero => omega
      | succ n =>
        have hs : (s.extract (i + 1) s.size).size = s.size - (i + 1) := size_ext s (i + 1) hi
        have := count_le c n (s.extract (i + 1) s.size) (by omega)
        rw [Lib.countB_hit s ⟨#[c]⟩ i (Nat.le_refl _) h, h1]
        omega

theorem split_calls (s : ByteArray) (c : UInt8) (w : World) (hs : s.size ≤ 16777216) (hg : GV w) :
    Calls Tryz.prog 47 #[.string s, .string ⟨#[c]⟩] w fun e w' => ∃ A cap, e = .returned (.slice A (spS c s).length cap) ∧ Sl eStr w' (fun b => b = w.heap.size) (.slice A (spS c s).length cap) (spS c s) ∧ Below w.heap.size w w' := by
  obtain ⟨m, hm⟩ := hg
  refine (Tryz.strings_Split s ⟨#[c]⟩ m w (by omega) hm (Nat.le_refl _)).mono ?_
  rintro e w' ⟨rfl, rfl⟩
  rw [← spS_len]
  have hle : (spS c s).length ≤ maxLen := by
    rw [spS_len]
    have := count_le c _ s (Nat.le_refl _)
    unfold maxLen
    omega
  exact ⟨_, _, rfl, (Ow.litS 9 w (spS c s) (fun x hx => by have := spS_size c s x hx; unfold maxLen; omega) hle _ rfl _ rfl).sl (fun b c => False.elim c) (fun g hg => by simp [Value.ownBlock] at hg; exact hg.symm), below_alloc (Below.refl _ _) (Nat.le_refl _) _⟩

/-- What stands ahead of a byte, what behind it, and whether it stands there. -/
def cutS (c : UInt8) (s : ByteArray) : ByteArray × ByteArray × Bool := (⟨(Lib.cut s.data.toList [c]).1.toArray⟩, ⟨(Lib.cut s.data.toList [c]).2.1.toArray⟩, (Lib.cut s.data.toList [c]).2.2)
theorem cutS_size (c : UInt8) (s : ByteArray) : (cutS c s).1.size ≤ s.size ∧ (cutS c s).2.1.size ≤ s.size := by
  unfold cutS Lib.cut
  have := data_size s
  split
  · constructor
    · show (List.take _ s.data.toList).length ≤ _
      rw [List.length_take]; omega
    · show (List.drop _ s.data.toList).length ≤ _
      rw [List.length_drop]; omega
  · constructor
    · show s.data.toList.length ≤ _
      omega
    · show 0 ≤ _
      omega
theorem cut_calls (s : ByteArray) (c : UInt8) (w : World) (hs : s.size ≤ 16777216) (hg : GV w) :
    Calls Tryz.prog 29 #[.string s, .string ⟨#[c]⟩] w fun e w' => e = .returned (.tuple #[.string (cutS c s).1, .string (cutS c s).2.1, .bool (cutS c s).2.2]) ∧ Below w.heap.size w w' := by
  obtain ⟨m, hm⟩ := hg
  refine (Tryz.strings_Cut s ⟨#[c]⟩ m w (by omega) hm).mono ?_
  rintro e w' ⟨rfl, n, rfl⟩
  exact ⟨rfl, below_drewN (Below.refl _ _) n⟩

theorem str_cons (s : ByteArray) (h : 0 < s.size) : s.data.toList = s[0] :: (s.extract 1 s.size).data.toList := by
  rw [Lib.extract_data]
  obtain ⟨⟨l⟩⟩ := s
  match l, h with
  | a :: t, _ =>
    have e : List.take ((⟨⟨a :: t⟩⟩ : ByteArray).size - 1) (List.drop 1 (a :: t)) = t := by
      rw [List.take_of_length_le (by simp [ByteArray.size])]; rfl
    simp only
    rw [e]
    rfl
theorem decL_len : ∀ (n : Nat) (l r : List UInt8), l.length ≤ n → decL l = some r → r.length ≤ l.length
  | n, [], r, _, h => by simp [decL] at h; simp [h]
  | 0, _ :: _, r, hn, _ => by simp at hn
  | n + 1, c :: l, r, hn, h => by
    simp only [List.length_cons] at hn ⊢
    by_cases hc : c = 37
    · subst hc
      match l, hn, h with
      | [], _, h => simp [decL] at h
      | [a], _, h => simp [decL] at h
      | a :: b :: t, hn, h =>
        rw [decL, if_pos rfl] at h
        split at h
        · cases h
        · obtain ⟨q, hq, rfl⟩ := Option.map_eq_some_iff.1 h
          have := decL_len n t q (by simp at hn; omega) hq
          simp
          omega
    · have h' : (if plainN c.toNat then (decL l).map (c :: ·) else none) = some r := by
        cases l with
        | nil => simpa [decL, hc] using h
        | cons a l =>
          cases l with
          | nil => simpa [decL, hc] using h
          | cons b l => simpa [decL, hc] using h
      split at h'
      · obtain ⟨q, hq, rfl⟩ := Option.map_eq_some_iff.1 h'
        have := decL_len n l q (by omega) hq
        simp only [List.length_cons]
        omega
      · cases h'
theorem decS_size (s : ByteArray) : (decS s).1.size ≤ s.size := by
  unfold decS
  split
  · next l h =>
    have := decL_len _ _ _ (Nat.le_refl _) h
    rw [data_size] at this
    exact this
  · exact Nat.zero_le _

/-- Pieces decoded, no more than eight. -/
def decAll (acc : List ByteArray) : List ByteArray → List ByteArray × Bool
  | [] => (acc, true)
  | x :: xs => if (decS x).2 = false ∨ acc.length = 8 then ([], false) else decAll (acc ++ [(decS x).1]) xs
def pathS (s : ByteArray) : List ByteArray × Bool :=
  if s.size = 0 ∨ s.data.toList.head? ≠ some 47 then ([], false) else if s = ⟨#[47]⟩ then ([], true) else decAll [] (spS 47 (s.extract 1 s.size))

theorem path_calls (s : ByteArray) (w : World) (hs : s.size ≤ 16777216) (hg : GV w) :
    Calls Tryz.prog 30 #[.string s] w fun e w' => ∃ v, e = .returned (.tuple #[v, .bool (pathS s).2]) ∧ Sl eStr w' (fun b => w.heap.size ≤ b) v (pathS s).1 ∧ Below w.heap.size w w' := by
  by_cases hz : s.size = 0
  · have hr : s = ⟨#[]⟩ := by
      obtain ⟨⟨l⟩⟩ := s
      have : l = [] := List.eq_nil_of_length_eq_zero hz
      rw [this]
    subst hr
    go_enter Tryz.func30, Tryz.ntmps30
    go_wp2
    go_ret2
    exact ⟨_, rfl, Sl.nil _ _ _, Below.refl _ _⟩
  · have e0 : s.toList.isEmpty = false := by rw [empty_beq]; simp [hz]
    have e1 : (s.toList == []) = false := by
      cases h : s.toList with
      | nil => rw [h] at e0; cases e0
      | cons a b => rfl
    have hp : 0 < s.size := by omega
    have hh : s.data.toList.head? = some s[0] := by rw [str_cons s hp]; rfl
    by_cases hc : s[0] = 47
    · have hc1 : ((s[0].toNat : Int) != 47) = false := by rw [hc]; rfl
      by_cases h1 : s = ⟨#[47]⟩
      · subst h1
        go_enter Tryz.func30, Tryz.ntmps30
        go_wp2
        go_ret2
        exact ⟨_, rfl, Sl.nil _ _ _, Below.refl _ _⟩
      · have f1 : (s.toList == [47]) = false := by
          have e := beq_list s ⟨#[47]⟩
          rw [ByteArray.toList_eq ⟨#[47]⟩, decide_eq_false h1] at e
          exact e
        have hps : pathS s = decAll [] (spS 47 (s.extract 1 s.size)) := by
          unfold pathS
          rw [if_neg (by rw [hh, hc]; simp [hz]), if_neg h1]
        have HP := Lib.hid hps
        have hsz1 := size_ext s 1 (by omega)
        have HZ := Lib.hid hsz1
        clear hps hh hc h1 hsz1
        go_enter Tryz.func30, Tryz.ntmps30
        go_wp2_with fail
        refine (split_calls (s.extract 1 s.size) 47 _ (by rw [HZ.out]; omega) hg).mono ?_
        rintro e w1 ⟨A, cap, rfl, hsl, hb1⟩
        have hds : ∀ x ∈ spS 47 (s.extract 1 s.size), x.size ≤ s.size := fun x hx => by
          have := spS_size _ _ x hx
          have := HZ.out
          omega
        generalize spS 47 (s.extract 1 s.size) = xs at *
        have hml := hsl.len_eq.2
        unfold maxLen at hml
        have HG := Lib.hid hg
        clear hg HZ
        have hz1 := hb1.size
        go_wp2
        go_loopw [4, 22] (fun v i wr => ∃ (k : Nat) (acc : List ByteArray), i = .int .i64 k ∧ k ≤ xs.length ∧ acc.length ≤ 8 ∧ Ow eStr 9 wr (fun _ => False) v acc ∧ (∀ g, v.ownBlock = some g → w1.heap.size ≤ g) ∧ Below w1.heap.size w1 wr ∧ Hid (decAll acc (xs.drop k) = pathS s)) (fun _ i _ => xs.length - (intOf i).toNat)
        case atStart => exact ⟨0, [], rfl, by omega, by simp, Ow.nil _ _ _ _, by simp [Value.ownBlock], Below.refl _ _, Lib.hid (by rw [HP.out]; rfl)⟩
        case round =>
          obtain ⟨k, acc, rfl, hk, h8, hown, hgb, hB, hD⟩ := hrel
          have hBw := below_then hb1 (Nat.le_refl _) hB
          by_cases hlt : k < xs.length
          · obtain ⟨b, off, rfl, -, -, c, -⟩ := hsl.str_at k hlt
            have hxs := hds xs[k] (List.getElem_mem hlt)
            replace c := below_cell hB c
            have hD' := hD.out
            rw [List.drop_eq_getElem_cons hlt, decAll] at hD'
            generalize xs[k] = x at *
            have hdz := decS_size x
            clear hD
            have HDz := Lib.hid hdz
            obtain ⟨A0, cap0, rfl, hc0, hm0⟩ := hown.form
            unfold maxLen at hm0
            go_wp2_with fail
            refine (decode_calls x _ (by omega)).mono ?_
            rintro e w2 ⟨rfl, hb2⟩
            generalize decS x = d at hD' HDz ⊢
            obtain ⟨dv, dk⟩ := d
            simp only at hD' HDz ⊢
            have hown2 := (hown.below hb2).plain (fun _ c => c.1)
            have hB2 := below_then hB (Nat.le_refl _) hb2
            have hBw2 := below_then hBw (Nat.le_refl _) hb2
            have hz2 := hb2.size
            clear hb2 hown hdz
            cases dk with
            | false =>
              rw [if_pos (.inl rfl)] at hD'
              have HD := Lib.hid hD'
              clear hD'
              go_wp2
              go_ret2
              exact ⟨_, by rw [← HD.out]; rfl, by rw [← HD.out]; exact Sl.nil _ _ _, hBw2⟩
            | true =>
              by_cases h8' : acc.length = 8
              · rw [if_pos (.inr h8')] at hD'
                have hq : ((acc.length : Int) == 8) = true := by simp [h8']
                have HD := Lib.hid hD'
                clear hD' h8'
                go_wp2
                go_ret2
                exact ⟨_, by rw [← HD.out]; rfl, by rw [← HD.out]; exact Sl.nil _ _ _, hBw2⟩
              · rw [if_neg (by simp [h8'])] at hD'
                have hq : ((acc.length : Int) == 8) = false := by simp; omega
                have HD := Lib.hid hD'
                have h7 : acc.length ≤ 7 := by omega
                clear hD' h8'
                go_wp2_with (at_builtin; refine wp_app eStr rfl (.tmp 38) (.tmp 40) 29 9 rfl Tryz.underlying29 (.string ⟨#[]⟩) 16 infoStr rfl (by decide) (fun _ => False) _ acc rfl ?own _ [dv] rfl ?src ?c3 ?c4 ?_)
                case own => exact (hown2.below (below_alloc (Below.refl _ _) (Nat.le_refl _) _)).plain (fun _ c => c.1)
                case src => exact one_new eStr w2 (fun _ => False) dv _ 9 ⟨rfl, by have := HDz.out; unfold maxLen; omega⟩ (fun b c => False.elim c)
                case c3 => unfold maxLen; show acc.length + 1 ≤ _; omega
                case c4 => show (acc.length + 1) * 16 ≤ _; omega
                intro v' w' hown' hg' hv'
                have hgb' := app_own (B := w1.heap.size) (w2 := w2) (o := .cells #[.string dv] 9) (by simpa using hv') hgb (by have := hB2.size; omega)
                have hBn := app_below hB2 (Nat.le_refl _) hg' hgb
                clear hown2 hv' hg' hBw2 HDz
                go_wp2
                go_roundw
                case rel => exact ⟨k + 1, acc ++ [dv], by go_num, by omega, by simp; omega, hown', hgb', hBn, HD⟩
                case measure => simp [intOf]; omega
          · have hD' := hD.out
            rw [List.drop_eq_nil_of_le (by omega), decAll] at hD'
            have HD := Lib.hid hD'
            clear hD hD'
            go_wp2
            go_ret2
            exact ⟨_, by rw [← HD.out]; rfl, by rw [← HD.out]; exact hown.sl (fun _ c _ => False.elim c) (fun g hg => by have := hgb g hg; omega), hBw⟩
    · have hc1 : ((s[0].toNat : Int) != 47) = true := by
        rw [bne_iff_ne]
        intro h
        apply hc
        have : s[0].toNat = (47 : UInt8).toNat := by have e : (47 : UInt8).toNat = 47 := rfl; omega
        exact UInt8.toNat_inj.1 this
      have hps : pathS s = ([], false) := by
        unfold pathS
        rw [if_pos (.inr (by rw [hh]; simpa using hc))]
      have HP := Lib.hid hps
      clear hps hh hc
      go_enter Tryz.func30, Tryz.ntmps30
      go_wp2
      go_ret2
      exact ⟨_, by rw [HP.out]; rfl, by rw [HP.out]; exact Sl.nil _ _ _, Below.refl _ _⟩
end Go.Proofs.YtejbkjndipineaaGreatDoor
