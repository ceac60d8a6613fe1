/- The walk of pct.Decode. -/
import Derived.Test.YtejbkjndipineaaGreatDoorPct
namespace Go.Proofs.YtejbkjndipineaaGreatDoor
open Go Go.RowKit PR
set_option linter.unusedVariables false
set_option linter.unusedSimpArgs false
set_option maxHeartbeats 400000
set_option maxRecDepth 100000

/-- The text of a code; none: it is none. -/
def decL : List UInt8 → Option (List UInt8)
  | [] => some []
  | c :: r =>
    if c = 37 then
      match r with
      | a :: b :: r2 => if digitN a.toNat < 0 ∨ digitN b.toNat < 0 then none else (decL r2).map (((digitN a.toNat).toNat * 16 + (digitN b.toNat).toNat).toUInt8 :: ·)
      | _ => none
    else if plainN c.toNat then (decL r).map (c :: ·) else none
def decS (s : ByteArray) : ByteArray × Bool := match decL s.data.toList with | some l => (⟨l.toArray⟩, true) | none => (⟨#[]⟩, false)
def lenV : Value → Nat | .string s => s.size | _ => 0
theorem digit_q (n : Nat) (hn : n ≤ 255) (w : World) :
    Calls Tryz.prog 65 #[.int .u8 n] w fun e w' => e = .returned (.int .i64 (digitN n)) ∧ w' = w := (digit_calls n hn w).mono fun _ _ h => ⟨h.1, h.2.symm⟩
theorem digit_bd (n : Nat) : -1 ≤ digitN n ∧ digitN n ≤ 15 := by
  unfold digitN
  split
  · omega
  · split
    · omega
    · split <;> omega
theorem data_size (s : ByteArray) : s.data.toList.length = s.size := by rw [Array.length_toList]; rfl
theorem dec_pct (r : ByteArray) (h : 3 ≤ r.size) (h0 : r[0] = 37) : decL r.data.toList =
    if digitN r[1].toNat < 0 ∨ digitN r[2].toNat < 0 then none else (decL (r.extract 3 r.size).data.toList).map (((digitN r[1].toNat).toNat * 16 + (digitN r[2].toNat).toNat).toUInt8 :: ·) := by
  rw [Lib.extract_data]
  obtain ⟨⟨l⟩⟩ := r
  match l, h, h0 with
  | a :: b :: c :: t, _, h0 =>
    have ha : a = 37 := h0
    subst ha
    have e : List.take ((⟨⟨37 :: b :: c :: t⟩⟩ : ByteArray).size - 3) (List.drop 3 (37 :: b :: c :: t)) = t := by
      rw [List.take_of_length_le (by simp [ByteArray.size])]; rfl
    simp only
    rw [e, decL, if_pos rfl]
    rfl
theorem dec_short (r : ByteArray) (h : 0 < r.size) (h3 : r.size < 3) (h0 : r[0] = 37) : decL r.data.toList = none := by
  obtain ⟨⟨l⟩⟩ := r
  match l, h, h3, h0 with
  | [a], _, _, h0 =>
    have ha : a = 37 := h0
    subst ha
    rfl
  | [a, b], _, _, h0 =>
    have ha : a = 37 := h0
    subst ha
    rfl
  | a :: b :: c :: t, _, h3, _ => exact absurd h3 (by simp [ByteArray.size])
theorem dec_other (r : ByteArray) (h : 0 < r.size) (h0 : r[0] ≠ 37) : decL r.data.toList = if plainN r[0].toNat then (decL (r.extract 1 r.size).data.toList).map (r[0] :: ·) else none := by
  rw [Lib.extract_data]
  obtain ⟨⟨l⟩⟩ := r
  match l, h, h0 with
  | a :: t, _, h0 =>
    have ha : a ≠ 37 := h0
    have e : List.take ((⟨⟨a :: t⟩⟩ : ByteArray).size - 1) (List.drop 1 (a :: t)) = t := by
      rw [List.take_of_length_le (by simp [ByteArray.size])]; rfl
    simp only
    rw [e]
    cases t with
    | nil => simp [decL, ha]; rfl
    | cons b t =>
      cases t with
      | nil => simp [decL, ha]; rfl
      | cons c t => simp [decL, ha]; rfl

theorem or_hex (hi lo : Int) (h0 : 0 ≤ hi) (h1 : hi ≤ 15) (h2 : 0 ≤ lo) (h3 : lo ≤ 15) : bits BinOp.or IntKind.i64 (hi * 16) lo % 256 = ((hi.toNat * 16 + lo.toNat).toUInt8.toNat : Int) := by
  have key : ∀ a : Fin 16, ∀ b : Fin 16, bits BinOp.or IntKind.i64 (((a.val : Nat) : Int) * 16) ((b.val : Nat) : Int) % 256 = ((a.val * 16 + b.val).toUInt8.toNat : Int) := by decide +kernel
  have := key ⟨hi.toNat, by omega⟩ ⟨lo.toNat, by omega⟩
  simp only [Int.toNat_of_nonneg h0, Int.toNat_of_nonneg h2] at this
  exact this
theorem size_ext (r : ByteArray) (k : Nat) (h : k ≤ r.size) : (r.extract k r.size).size = r.size - k := by simp [ByteArray.size_extract]

theorem decode_calls (s : ByteArray) (w : World) (hs : s.size ≤ 1099511627776) :
    Calls Tryz.prog 48 #[.string s] w fun e w' => e = .returned (.tuple #[.string (decS s).1, .bool (decS s).2]) ∧ Below w.heap.size w w' := by
  go_enter Tryz.func48, Tryz.ntmps48
  go_wp2
  go_loopw [0] (fun v wr => ∃ (r : ByteArray) (acc : List UInt8), v = .string r ∧ acc.length + r.size ≤ s.size ∧ Below w.heap.size w wr ∧ Hid (Lib.IsBuilder 76 5 w.heap.size w.heap.size (Lib.byteCells acc) wr) ∧ Hid (decL s.data.toList = (decL r.data.toList).map (acc ++ ·))) (fun v _ => lenV v)
  case atStart => exact ⟨s, [], rfl, by simp, by (repeat (first | assumption | exact Below.refl _ _ | apply Below.drew | apply below_drewN | refine below_alloc ?_ (Nat.le_refl _) _ | refine below_then ?_ (Nat.le_refl _) (by assumption))), Lib.hid (builder_new w), Lib.hid (by simp)⟩
  case round =>
    obtain ⟨r, acc, rfl, hlen, hB, hS, hD⟩ := hrel
    by_cases hz : r.size = 0
    · have hr : r = ⟨#[]⟩ := by
        obtain ⟨⟨l⟩⟩ := r
        have : l = [] := List.eq_nil_of_length_eq_zero hz
        rw [this]
      subst hr
      have hD' := hD.out
      have HR := Lib.hid (show decS s = (⟨acc.toArray⟩, true) by unfold decS; rw [hD']; simp [decL])
      have hsz := hB.size
      clear hD hD' hz
      go_wp2_with fail
      refine (Tryz.Builder_String_any _ _ _ _ hS.out hsz).mono ?_
      rintro e w1 ⟨rfl, hb1⟩
      go_wp2
      go_ret2
      exact ⟨by rw [HR.out]; rfl, hB.trans hb1⟩
    · have e0 : r.toList.isEmpty = false := by rw [empty_beq]; simp [hz]
      have e1 : (r.toList == []) = false := by
        cases h : r.toList with
        | nil => rw [h] at e0; cases e0
        | cons a b => rfl
      have hp : 0 < r.size := by omega
      have hD' := hD.out
      have hn0 : (r[0].toNat) ≤ 255 := by have := r[0].toNat_lt; omega
      by_cases hc : r[0] = 37
      · have hc1 : ((r[0].toNat : Int) == 37) = true := by rw [hc]; rfl
        by_cases h3 : r.size < 3
        · rw [dec_short r hp h3 hc] at hD'
          have HR := Lib.hid (show decS s = (⟨#[]⟩, false) by unfold decS; rw [hD']; rfl)
          have h3' : decide ((r.size : Int) < 3) = true := by simp; omega
          have h3'' : decide (r.size < 3) = true := by simp; omega
          clear hD hD' hc
          go_wp2
          go_ret2
          exact ⟨by rw [HR.out]; rfl, hB⟩
        · rw [dec_pct r (by omega) hc] at hD'
          have hn1 : (r[1].toNat) ≤ 255 := by have := r[1].toNat_lt; omega
          have hn2 : (r[2].toNat) ≤ 255 := by have := r[2].toNat_lt; omega
          have hbd1 := digit_bd r[1].toNat
          have hbd2 := digit_bd r[2].toNat
          have HD := Lib.hid hD'
          have i1 : 1 < r.size := by omega
          have i2 : 2 < r.size := by omega
          have j1 : (1 : Int) < r.size := by omega
          have j2 : (2 : Int) < r.size := by omega
          have h3' : decide ((r.size : Int) < 3) = false := by simp; omega
          have h3'' : decide (r.size < 3) = false := by simp; omega
          clear hD hD' hc
          go_wp2
          go_quiet ((go_at_call 65; exact Calls.quiet_of_same (digit_q _ (by first | exact hn1 | exact hn2) _)))
          generalize digitN r[1].toNat = hi at *
          generalize digitN r[2].toNat = lo at *
          clear hn1 hn2
          have HS0 : Hid (Lib.IsBuilder 76 5 w.heap.size w.heap.size (Lib.byteCells acc) (wr.drewN nq)) := hS.out
          have hB0 : Below w.heap.size w (wr.drewN nq) := below_drewN hB nq
          clear hS
          by_cases g1 : hi < 0
          · have d1 : decide (hi < 0) = true := decide_eq_true g1
            have hD' := HD.out
            rw [if_pos (.inl g1)] at hD'
            have HR := Lib.hid (show decS s = (⟨#[]⟩, false) by unfold decS; rw [hD']; rfl)
            clear HD hD' g1
            go_wp2
            go_ret2
            exact ⟨by rw [HR.out]; rfl, hB0⟩
          · have d1 : decide (hi < 0) = false := decide_eq_false g1
            by_cases g2 : lo < 0
            · have d2 : decide (lo < 0) = true := decide_eq_true g2
              have hD' := HD.out
              rw [if_pos (.inr g2)] at hD'
              have HR := Lib.hid (show decS s = (⟨#[]⟩, false) by unfold decS; rw [hD']; rfl)
              clear HD hD' g2
              go_wp2
              go_ret2
              exact ⟨by rw [HR.out]; rfl, hB0⟩
            · have d2 : decide (lo < 0) = false := decide_eq_false g2
              have hD' := HD.out
              rw [if_neg (by omega)] at hD'
              have HD2 := Lib.hid hD'
              have p1 : 0 ≤ hi := by omega
              have p2 : 0 ≤ lo := by omega
              clear HD hD'
              have ho := Lib.hid (or_hex hi lo p1 hbd1.2 p2 hbd2.2)
              go_wp2_with fail
              have hsz := hB0.size
              refine (writeByte_calls _ _ _ _ _ HS0.out (by rw [Lib.byteCells_length]; omega) hsz).mono ?_
              rintro e w1 ⟨rfl, q1, hb1, -⟩
              rw [ho.out, byteCells_snoc] at q1
              have HS1 := Lib.hid (show Lib.IsBuilder _ _ _ _ _ _ from .inr q1)
              have hB1 := hB0.trans hb1
              clear HS0 q1 hb1 hB0 ho
              go_wp2
              go_roundw
              case rel => exact ⟨r.extract 3 r.size, acc ++ [(hi.toNat * 16 + lo.toNat).toUInt8], rfl, by rw [size_ext r 3 (by omega)]; simp; omega, hB1, HS1, Lib.hid (by rw [HD2.out, Option.map_map]; congr 1; funext l; simp)⟩
              case measure => simp [lenV]; omega
      · rw [dec_other r hp hc] at hD'
        have hc1 : ((r[0].toNat : Int) == 37) = false := by
          rw [beq_eq_false_iff_ne]
          intro h
          apply hc
          have : r[0].toNat = (37 : UInt8).toNat := by have e : (37 : UInt8).toNat = 37 := rfl; omega
          exact UInt8.toNat_inj.1 this
        have HD := Lib.hid hD'
        clear hD hD' hc
        go_wp2_with fail
        refine (plain_calls _ hn0 _).mono ?_
        rintro e w1 ⟨rfl, rfl⟩
        cases hpl : plainN r[0].toNat with
        | false =>
          have hD' := HD.out
          rw [if_neg (by simp [hpl])] at hD'
          have HR := Lib.hid (show decS s = (⟨#[]⟩, false) by unfold decS; rw [hD']; rfl)
          clear HD hD' hpl
          go_wp2
          go_ret2
          exact ⟨by rw [HR.out]; rfl, hB⟩
        | true =>
          have hD' := HD.out
          rw [if_pos hpl] at hD'
          have HD2 := Lib.hid hD'
          clear HD hD' hpl
          go_wp2_with fail
          have hsz := hB.size
          refine (writeByte_calls _ _ _ _ _ hS.out (by rw [Lib.byteCells_length]; omega) hsz).mono ?_
          rintro e w2 ⟨rfl, q1, hb1, -⟩
          rw [byteCells_snoc] at q1
          have HS1 := Lib.hid (show Lib.IsBuilder _ _ _ _ _ _ from .inr q1)
          have hB1 := hB.trans hb1
          clear hS q1 hb1
          go_wp2
          go_roundw
          case rel => exact ⟨r.extract 1 r.size, acc ++ [r[0]], rfl, by rw [size_ext r 1 (by omega)]; simp; omega, hB1, HS1, Lib.hid (by rw [HD2.out, Option.map_map]; congr 1; funext l; simp)⟩
          case measure => simp [lenV]; omega
end Go.Proofs.YtejbkjndipineaaGreatDoor
