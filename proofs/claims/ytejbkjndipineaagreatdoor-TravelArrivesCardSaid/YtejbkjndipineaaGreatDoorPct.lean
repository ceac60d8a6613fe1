/- Walks of pct.Plain, pct.digit, pct.Encode, pct.Decode. -/
import Derived.Test.YtejbkjndipineaaGreatDoorBuilder
import Derived.Test.YtejbkjndipineaaGreatDoorShelf
namespace Go.Proofs.YtejbkjndipineaaGreatDoor
open Go Go.RowKit PR
set_option linter.unusedVariables false
set_option linter.unusedSimpArgs false
set_option maxHeartbeats 400000
set_option maxRecDepth 100000

/-- May a byte stand as it is? -/
def plainN (n : Nat) : Bool := (decide (97 ≤ n) && decide (n ≤ 122)) || (decide (65 ≤ n) && decide (n ≤ 90)) || (decide (48 ≤ n) && decide (n ≤ 57)) || decide (0 ≤ Lib.indexByte [45, 46, 95, 126] n.toUInt8)
/-- What a hex digit is; below 0: it is none. -/
def digitN (n : Nat) : Int := if 48 ≤ n ∧ n ≤ 57 then (n : Int) - 48 else if 97 ≤ n ∧ n ≤ 102 then (n : Int) - 87 else if 65 ≤ n ∧ n ≤ 70 then (n : Int) - 55 else -1

theorem plain_calls (n : Nat) (hn : n ≤ 255) (w : World) :
    Calls Tryz.prog 45 #[.int .u8 n] w fun e w' => e = .returned (.bool (plainN n)) ∧ w = w' := by
  rcases (show (0 ≤ n ∧ n ≤ 47) ∨ (48 ≤ n ∧ n ≤ 57) ∨ (58 ≤ n ∧ n ≤ 64) ∨ (65 ≤ n ∧ n ≤ 90) ∨ (91 ≤ n ∧ n ≤ 96) ∨ (97 ≤ n ∧ n ≤ 122) ∨ (123 ≤ n ∧ n ≤ 255) by omega) with ⟨h1, h2⟩ | ⟨h1, h2⟩ | ⟨h1, h2⟩ | ⟨h1, h2⟩ | ⟨h1, h2⟩ | ⟨h1, h2⟩ | ⟨h1, h2⟩
  · have d0 : decide ((97 : Int) ≤ (n : Int)) = false := by simp; omega
    have d1 : decide (97 ≤ n) = false := by simp; omega
    have d2 : decide ((n : Int) ≤ 122) = true := by simp; omega
    have d3 : decide (n ≤ 122) = true := by simp; omega
    have d4 : decide ((65 : Int) ≤ (n : Int)) = false := by simp; omega
    have d5 : decide (65 ≤ n) = false := by simp; omega
    have d6 : decide ((n : Int) ≤ 90) = true := by simp; omega
    have d7 : decide (n ≤ 90) = true := by simp; omega
    have d8 : decide ((48 : Int) ≤ (n : Int)) = false := by simp; omega
    have d9 : decide (48 ≤ n) = false := by simp; omega
    have d10 : decide ((n : Int) ≤ 57) = true := by simp; omega
    have d11 : decide (n ≤ 57) = true := by simp; omega
    have HR := Lib.hid (show plainN n = decide (0 ≤ Lib.indexByte [45, 46, 95, 126] n.toUInt8) by simp [plainN]; omega)
    go_enter Tryz.func45, Tryz.ntmps45
    go_wp2_with (go_at_call 62; refine (Tryz.strings_IndexByte _ _ _).mono ?_; rintro e w1 ⟨rfl, rfl⟩)
    go_ret
    exact ⟨by rw [HR.out]; rfl, rfl⟩
  · have d0 : decide ((97 : Int) ≤ (n : Int)) = false := by simp; omega
    have d1 : decide (97 ≤ n) = false := by simp; omega
    have d2 : decide ((n : Int) ≤ 122) = true := by simp; omega
    have d3 : decide (n ≤ 122) = true := by simp; omega
    have d4 : decide ((65 : Int) ≤ (n : Int)) = false := by simp; omega
    have d5 : decide (65 ≤ n) = false := by simp; omega
    have d6 : decide ((n : Int) ≤ 90) = true := by simp; omega
    have d7 : decide (n ≤ 90) = true := by simp; omega
    have d8 : decide ((48 : Int) ≤ (n : Int)) = true := by simp; omega
    have d9 : decide (48 ≤ n) = true := by simp; omega
    have d10 : decide ((n : Int) ≤ 57) = true := by simp; omega
    have d11 : decide (n ≤ 57) = true := by simp; omega
    have HR := Lib.hid (show plainN n = true by simp [plainN]; omega)
    go_enter Tryz.func45, Tryz.ntmps45
    go_wp2_with (go_at_call 62; refine (Tryz.strings_IndexByte _ _ _).mono ?_; rintro e w1 ⟨rfl, rfl⟩)
    go_ret
    exact ⟨by rw [HR.out]; rfl, rfl⟩
  · have d0 : decide ((97 : Int) ≤ (n : Int)) = false := by simp; omega
    have d1 : decide (97 ≤ n) = false := by simp; omega
    have d2 : decide ((n : Int) ≤ 122) = true := by simp; omega
    have d3 : decide (n ≤ 122) = true := by simp; omega
    have d4 : decide ((65 : Int) ≤ (n : Int)) = false := by simp; omega
    have d5 : decide (65 ≤ n) = false := by simp; omega
    have d6 : decide ((n : Int) ≤ 90) = true := by simp; omega
    have d7 : decide (n ≤ 90) = true := by simp; omega
    have d8 : decide ((48 : Int) ≤ (n : Int)) = true := by simp; omega
    have d9 : decide (48 ≤ n) = true := by simp; omega
    have d10 : decide ((n : Int) ≤ 57) = false := by simp; omega
    have d11 : decide (n ≤ 57) = false := by simp; omega
    have HR := Lib.hid (show plainN n = decide (0 ≤ Lib.indexByte [45, 46, 95, 126] n.toUInt8) by simp [plainN]; omega)
    go_enter Tryz.func45, Tryz.ntmps45
    go_wp2_with (go_at_call 62; refine (Tryz.strings_IndexByte _ _ _).mono ?_; rintro e w1 ⟨rfl, rfl⟩)
    go_ret
    exact ⟨by rw [HR.out]; rfl, rfl⟩
  · have d0 : decide ((97 : Int) ≤ (n : Int)) = false := by simp; omega
    have d1 : decide (97 ≤ n) = false := by simp; omega
    have d2 : decide ((n : Int) ≤ 122) = true := by simp; omega
    have d3 : decide (n ≤ 122) = true := by simp; omega
    have d4 : decide ((65 : Int) ≤ (n : Int)) = true := by simp; omega
    have d5 : decide (65 ≤ n) = true := by simp; omega
    have d6 : decide ((n : Int) ≤ 90) = true := by simp; omega
    have d7 : decide (n ≤ 90) = true := by simp; omega
    have d8 : decide ((48 : Int) ≤ (n : Int)) = true := by simp; omega
    have d9 : decide (48 ≤ n) = true := by simp; omega
    have d10 : decide ((n : Int) ≤ 57) = false := by simp; omega
    have d11 : decide (n ≤ 57) = false := by simp; omega
    have HR := Lib.hid (show plainN n = true by simp [plainN]; omega)
    go_enter Tryz.func45, Tryz.ntmps45
    go_wp2_with (go_at_call 62; refine (Tryz.strings_IndexByte _ _ _).mono ?_; rintro e w1 ⟨rfl, rfl⟩)
    go_ret
    exact ⟨by rw [HR.out]; rfl, rfl⟩
  · have d0 : decide ((97 : Int) ≤ (n : Int)) = false := by simp; omega
    have d1 : decide (97 ≤ n) = false := by simp; omega
    have d2 : decide ((n : Int) ≤ 122) = true := by simp; omega
    have d3 : decide (n ≤ 122) = true := by simp; omega
    have d4 : decide ((65 : Int) ≤ (n : Int)) = true := by simp; omega
    have d5 : decide (65 ≤ n) = true := by simp; omega
    have d6 : decide ((n : Int) ≤ 90) = false := by simp; omega
    have d7 : decide (n ≤ 90) = false := by simp; omega
    have d8 : decide ((48 : Int) ≤ (n : Int)) = true := by simp; omega
    have d9 : decide (48 ≤ n) = true := by simp; omega
    have d10 : decide ((n : Int) ≤ 57) = false := by simp; omega
    have d11 : decide (n ≤ 57) = false := by simp; omega
    have HR := Lib.hid (show plainN n = decide (0 ≤ Lib.indexByte [45, 46, 95, 126] n.toUInt8) by simp [plainN]; omega)
    go_enter Tryz.func45, Tryz.ntmps45
    go_wp2_with (go_at_call 62; refine (Tryz.strings_IndexByte _ _ _).mono ?_; rintro e w1 ⟨rfl, rfl⟩)
    go_ret
    exact ⟨by rw [HR.out]; rfl, rfl⟩
  · have d0 : decide ((97 : Int) ≤ (n : Int)) = true := by simp; omega
    have d1 : decide (97 ≤ n) = true := by simp; omega
    have d2 : decide ((n : Int) ≤ 122) = true := by simp; omega
    have d3 : decide (n ≤ 122) = true := by simp; omega
    have d4 : decide ((65 : Int) ≤ (n : Int)) = true := by simp; omega
    have d5 : decide (65 ≤ n) = true := by simp; omega
    have d6 : decide ((n : Int) ≤ 90) = false := by simp; omega
    have d7 : decide (n ≤ 90) = false := by simp; omega
    have d8 : decide ((48 : Int) ≤ (n : Int)) = true := by simp; omega
    have d9 : decide (48 ≤ n) = true := by simp; omega
    have d10 : decide ((n : Int) ≤ 57) = false := by simp; omega
    have d11 : decide (n ≤ 57) = false := by simp; omega
    have HR := Lib.hid (show plainN n = true by simp [plainN]; omega)
    go_enter Tryz.func45, Tryz.ntmps45
    go_wp2_with (go_at_call 62; refine (Tryz.strings_IndexByte _ _ _).mono ?_; rintro e w1 ⟨rfl, rfl⟩)
    go_ret
    exact ⟨by rw [HR.out]; rfl, rfl⟩
  · have d0 : decide ((97 : Int) ≤ (n : Int)) = true := by simp; omega
    have d1 : decide (97 ≤ n) = true := by simp; omega
    have d2 : decide ((n : Int) ≤ 122) = false := by simp; omega
    have d3 : decide (n ≤ 122) = false := by simp; omega
    have d4 : decide ((65 : Int) ≤ (n : Int)) = true := by simp; omega
    have d5 : decide (65 ≤ n) = true := by simp; omega
    have d6 : decide ((n : Int) ≤ 90) = false := by simp; omega
    have d7 : decide (n ≤ 90) = false := by simp; omega
    have d8 : decide ((48 : Int) ≤ (n : Int)) = true := by simp; omega
    have d9 : decide (48 ≤ n) = true := by simp; omega
    have d10 : decide ((n : Int) ≤ 57) = false := by simp; omega
    have d11 : decide (n ≤ 57) = false := by simp; omega
    have HR := Lib.hid (show plainN n = decide (0 ≤ Lib.indexByte [45, 46, 95, 126] n.toUInt8) by simp [plainN]; omega)
    go_enter Tryz.func45, Tryz.ntmps45
    go_wp2_with (go_at_call 62; refine (Tryz.strings_IndexByte _ _ _).mono ?_; rintro e w1 ⟨rfl, rfl⟩)
    go_ret
    exact ⟨by rw [HR.out]; rfl, rfl⟩

theorem digit_calls (n : Nat) (hn : n ≤ 255) (w : World) :
    Calls Tryz.prog 65 #[.int .u8 n] w fun e w' => e = .returned (.int .i64 (digitN n)) ∧ w = w' := by
  rcases (show (0 ≤ n ∧ n ≤ 47) ∨ (48 ≤ n ∧ n ≤ 57) ∨ (58 ≤ n ∧ n ≤ 64) ∨ (65 ≤ n ∧ n ≤ 70) ∨ (71 ≤ n ∧ n ≤ 96) ∨ (97 ≤ n ∧ n ≤ 102) ∨ (103 ≤ n ∧ n ≤ 255) by omega) with ⟨h1, h2⟩ | ⟨h1, h2⟩ | ⟨h1, h2⟩ | ⟨h1, h2⟩ | ⟨h1, h2⟩ | ⟨h1, h2⟩ | ⟨h1, h2⟩
  · have d0 : decide ((97 : Int) ≤ (n : Int)) = false := by simp; omega
    have d1 : decide (97 ≤ n) = false := by simp; omega
    have d2 : decide ((n : Int) ≤ 102) = true := by simp; omega
    have d3 : decide (n ≤ 102) = true := by simp; omega
    have d4 : decide ((65 : Int) ≤ (n : Int)) = false := by simp; omega
    have d5 : decide (65 ≤ n) = false := by simp; omega
    have d6 : decide ((n : Int) ≤ 70) = true := by simp; omega
    have d7 : decide (n ≤ 70) = true := by simp; omega
    have d8 : decide ((48 : Int) ≤ (n : Int)) = false := by simp; omega
    have d9 : decide (48 ≤ n) = false := by simp; omega
    have d10 : decide ((n : Int) ≤ 57) = true := by simp; omega
    have d11 : decide (n ≤ 57) = true := by simp; omega
    have HR := Lib.hid (show digitN n = -1 by unfold digitN; repeat (first | rw [if_pos (by omega)] | rw [if_neg (by omega)]))
    go_enter Tryz.func65, Tryz.ntmps65
    go_wp2
    go_ret
    exact ⟨by rw [HR.out]; first | rfl | (refine ret_int ?_; omega), rfl⟩
  · have d0 : decide ((97 : Int) ≤ (n : Int)) = false := by simp; omega
    have d1 : decide (97 ≤ n) = false := by simp; omega
    have d2 : decide ((n : Int) ≤ 102) = true := by simp; omega
    have d3 : decide (n ≤ 102) = true := by simp; omega
    have d4 : decide ((65 : Int) ≤ (n : Int)) = false := by simp; omega
    have d5 : decide (65 ≤ n) = false := by simp; omega
    have d6 : decide ((n : Int) ≤ 70) = true := by simp; omega
    have d7 : decide (n ≤ 70) = true := by simp; omega
    have d8 : decide ((48 : Int) ≤ (n : Int)) = true := by simp; omega
    have d9 : decide (48 ≤ n) = true := by simp; omega
    have d10 : decide ((n : Int) ≤ 57) = true := by simp; omega
    have d11 : decide (n ≤ 57) = true := by simp; omega
    have HR := Lib.hid (show digitN n = (n : Int) - 48 by unfold digitN; repeat (first | rw [if_pos (by omega)] | rw [if_neg (by omega)]))
    go_enter Tryz.func65, Tryz.ntmps65
    go_wp2
    go_ret
    exact ⟨by rw [HR.out]; first | rfl | (refine ret_int ?_; omega), rfl⟩
  · have d0 : decide ((97 : Int) ≤ (n : Int)) = false := by simp; omega
    have d1 : decide (97 ≤ n) = false := by simp; omega
    have d2 : decide ((n : Int) ≤ 102) = true := by simp; omega
    have d3 : decide (n ≤ 102) = true := by simp; omega
    have d4 : decide ((65 : Int) ≤ (n : Int)) = false := by simp; omega
    have d5 : decide (65 ≤ n) = false := by simp; omega
    have d6 : decide ((n : Int) ≤ 70) = true := by simp; omega
    have d7 : decide (n ≤ 70) = true := by simp; omega
    have d8 : decide ((48 : Int) ≤ (n : Int)) = true := by simp; omega
    have d9 : decide (48 ≤ n) = true := by simp; omega
    have d10 : decide ((n : Int) ≤ 57) = false := by simp; omega
    have d11 : decide (n ≤ 57) = false := by simp; omega
    have HR := Lib.hid (show digitN n = -1 by unfold digitN; repeat (first | rw [if_pos (by omega)] | rw [if_neg (by omega)]))
    go_enter Tryz.func65, Tryz.ntmps65
    go_wp2
    go_ret
    exact ⟨by rw [HR.out]; first | rfl | (refine ret_int ?_; omega), rfl⟩
  · have d0 : decide ((97 : Int) ≤ (n : Int)) = false := by simp; omega
    have d1 : decide (97 ≤ n) = false := by simp; omega
    have d2 : decide ((n : Int) ≤ 102) = true := by simp; omega
    have d3 : decide (n ≤ 102) = true := by simp; omega
    have d4 : decide ((65 : Int) ≤ (n : Int)) = true := by simp; omega
    have d5 : decide (65 ≤ n) = true := by simp; omega
    have d6 : decide ((n : Int) ≤ 70) = true := by simp; omega
    have d7 : decide (n ≤ 70) = true := by simp; omega
    have d8 : decide ((48 : Int) ≤ (n : Int)) = true := by simp; omega
    have d9 : decide (48 ≤ n) = true := by simp; omega
    have d10 : decide ((n : Int) ≤ 57) = false := by simp; omega
    have d11 : decide (n ≤ 57) = false := by simp; omega
    have HR := Lib.hid (show digitN n = (n : Int) - 55 by unfold digitN; repeat (first | rw [if_pos (by omega)] | rw [if_neg (by omega)]))
    go_enter Tryz.func65, Tryz.ntmps65
    go_wp2
    go_ret
    exact ⟨by rw [HR.out]; first | rfl | (refine ret_int ?_; omega), rfl⟩
  · have d0 : decide ((97 : Int) ≤ (n : Int)) = false := by simp; omega
    have d1 : decide (97 ≤ n) = false := by simp; omega
    have d2 : decide ((n : Int) ≤ 102) = true := by simp; omega
    have d3 : decide (n ≤ 102) = true := by simp; omega
    have d4 : decide ((65 : Int) ≤ (n : Int)) = true := by simp; omega
    have d5 : decide (65 ≤ n) = true := by simp; omega
    have d6 : decide ((n : Int) ≤ 70) = false := by simp; omega
    have d7 : decide (n ≤ 70) = false := by simp; omega
    have d8 : decide ((48 : Int) ≤ (n : Int)) = true := by simp; omega
    have d9 : decide (48 ≤ n) = true := by simp; omega
    have d10 : decide ((n : Int) ≤ 57) = false := by simp; omega
    have d11 : decide (n ≤ 57) = false := by simp; omega
    have HR := Lib.hid (show digitN n = -1 by unfold digitN; repeat (first | rw [if_pos (by omega)] | rw [if_neg (by omega)]))
    go_enter Tryz.func65, Tryz.ntmps65
    go_wp2
    go_ret
    exact ⟨by rw [HR.out]; first | rfl | (refine ret_int ?_; omega), rfl⟩
  · have d0 : decide ((97 : Int) ≤ (n : Int)) = true := by simp; omega
    have d1 : decide (97 ≤ n) = true := by simp; omega
    have d2 : decide ((n : Int) ≤ 102) = true := by simp; omega
    have d3 : decide (n ≤ 102) = true := by simp; omega
    have d4 : decide ((65 : Int) ≤ (n : Int)) = true := by simp; omega
    have d5 : decide (65 ≤ n) = true := by simp; omega
    have d6 : decide ((n : Int) ≤ 70) = false := by simp; omega
    have d7 : decide (n ≤ 70) = false := by simp; omega
    have d8 : decide ((48 : Int) ≤ (n : Int)) = true := by simp; omega
    have d9 : decide (48 ≤ n) = true := by simp; omega
    have d10 : decide ((n : Int) ≤ 57) = false := by simp; omega
    have d11 : decide (n ≤ 57) = false := by simp; omega
    have HR := Lib.hid (show digitN n = (n : Int) - 87 by unfold digitN; repeat (first | rw [if_pos (by omega)] | rw [if_neg (by omega)]))
    go_enter Tryz.func65, Tryz.ntmps65
    go_wp2
    go_ret
    exact ⟨by rw [HR.out]; first | rfl | (refine ret_int ?_; omega), rfl⟩
  · have d0 : decide ((97 : Int) ≤ (n : Int)) = true := by simp; omega
    have d1 : decide (97 ≤ n) = true := by simp; omega
    have d2 : decide ((n : Int) ≤ 102) = false := by simp; omega
    have d3 : decide (n ≤ 102) = false := by simp; omega
    have d4 : decide ((65 : Int) ≤ (n : Int)) = true := by simp; omega
    have d5 : decide (65 ≤ n) = true := by simp; omega
    have d6 : decide ((n : Int) ≤ 70) = false := by simp; omega
    have d7 : decide (n ≤ 70) = false := by simp; omega
    have d8 : decide ((48 : Int) ≤ (n : Int)) = true := by simp; omega
    have d9 : decide (48 ≤ n) = true := by simp; omega
    have d10 : decide ((n : Int) ≤ 57) = false := by simp; omega
    have d11 : decide (n ≤ 57) = false := by simp; omega
    have HR := Lib.hid (show digitN n = -1 by unfold digitN; repeat (first | rw [if_pos (by omega)] | rw [if_neg (by omega)]))
    go_enter Tryz.func65, Tryz.ntmps65
    go_wp2
    go_ret
    exact ⟨by rw [HR.out]; first | rfl | (refine ret_int ?_; omega), rfl⟩

def hexd (d : Nat) : UInt8 := if d < 10 then (48 + d).toUInt8 else (55 + d).toUInt8
/-- A byte's code. -/
def encB (c : UInt8) : List UInt8 := if plainN c.toNat then [c] else [37, hexd (c.toNat / 16), hexd (c.toNat % 16)]
def encL (l : List UInt8) : List UInt8 := l.flatMap encB
def encS (s : ByteArray) : ByteArray := ⟨(encL s.data.toList).toArray⟩
theorem encB_len (c : UInt8) : (encB c).length ≤ 3 := by unfold encB; split <;> simp
theorem encL_len (l : List UInt8) : (encL l).length ≤ 3 * l.length := by
  induction l with
  | nil => simp [encL]
  | cons c l ih =>
    have := encB_len c
    simp only [encL, List.flatMap_cons, List.length_append, List.length_cons] at *
    omega
theorem builder_new (w : World) : Lib.IsBuilder 76 5 w.heap.size w.heap.size (Lib.byteCells []) (w.alloc (.cells #[.pointer none, .slice none 0 0] 76)) :=
  .inl ⟨Nat.le_refl _, .slice none 0 0, heap_alloc_new w _, World.ownsRow_nil _ _ _ _, by simp [Value.ownBlock]⟩
theorem byteCells_snoc (l : List UInt8) (c : UInt8) : Lib.byteCells l ++ [.int .u8 (c.toNat : Int)] = Lib.byteCells (l ++ [c]) := by simp [Lib.byteCells]

theorem hexd_at (i : Nat) (h : i < (⟨#[48, 49, 50, 51, 52, 53, 54, 55, 56, 57, 65, 66, 67, 68, 69, 70]⟩ : ByteArray).size) : (⟨#[48, 49, 50, 51, 52, 53, 54, 55, 56, 57, 65, 66, 67, 68, 69, 70]⟩ : ByteArray)[i]'h = hexd i := by
  have h2 : i < 16 := h
  have : i = 0 ∨ i = 1 ∨ i = 2 ∨ i = 3 ∨ i = 4 ∨ i = 5 ∨ i = 6 ∨ i = 7 ∨ i = 8 ∨ i = 9 ∨ i = 10 ∨ i = 11 ∨ i = 12 ∨ i = 13 ∨ i = 14 ∨ i = 15 := by omega
  rcases this with rfl | rfl | rfl | rfl | rfl | rfl | rfl | rfl | rfl | rfl | rfl | rfl | rfl | rfl | rfl | rfl <;> rfl

theorem encode_calls (s : ByteArray) (w : World) (hs : s.size ≤ 1099511627776) :
    Calls Tryz.prog 26 #[.string s] w fun e w' => e = .returned (.string (encS s)) ∧ Below w.heap.size w w' := by
  go_enter Tryz.func26, Tryz.ntmps26
  go_wp2
  go_loopw [8] (fun i wr => ∃ k : Nat, i = .int .i64 k ∧ k ≤ s.size ∧ Below w.heap.size w wr ∧ Hid (Lib.IsBuilder 76 5 w.heap.size w.heap.size (Lib.byteCells (encL (s.data.toList.take k))) wr)) (fun i _ => s.size - (intOf i).toNat)
  case atStart => exact ⟨0, rfl, by omega, by (repeat (first | assumption | exact Below.refl _ _ | apply Below.drew | apply below_drewN | refine below_alloc ?_ (Nat.le_refl _) _ | refine below_then ?_ (Nat.le_refl _) (by assumption))), Lib.hid (builder_new w)⟩
  case round =>
    obtain ⟨k, rfl, hk, hB, hS⟩ := hrel
    by_cases hlt : k < s.size
    · have hn : (s[k].toNat) ≤ 255 := by have := s[k].toNat_lt; omega
      have hlen : (encL (s.data.toList.take k)).length ≤ 3 * k := Nat.le_trans (encL_len _) (by simp [List.length_take]; omega)
      have htk : s.data.toList.take (k + 1) = s.data.toList.take k ++ [s[k]] := by
        rw [List.take_succ_eq_append_getElem (by simpa using hlt)]; rfl
      have he : encL (s.data.toList.take (k + 1)) = encL (s.data.toList.take k) ++ encB s[k] := by rw [htk]; simp [encL]
      have HE := Lib.hid he
      clear he htk
      generalize encL (s.data.toList.take k) = acc at *
      have hsz := hB.size
      go_wp2_with fail
      refine (plain_calls _ hn _).mono ?_
      rintro e w1 ⟨rfl, rfl⟩
      generalize s[k] = c at *
      cases hp : plainN c.toNat with
      | true =>
        have hE := HE.out
        rw [show encB c = [c] by unfold encB; rw [if_pos hp]] at hE
        have HE2 := Lib.hid hE
        clear HE hE hp
        go_wp2_with fail
        refine (writeByte_calls _ _ _ _ _ hS.out (by rw [Lib.byteCells_length]; omega) hsz).mono ?_
        rintro e w1 ⟨rfl, h1, hb1, -⟩
        rw [byteCells_snoc, ← HE2.out] at h1
        have HS := Lib.hid (show Lib.IsBuilder _ _ _ _ _ _ from .inr h1)
        clear hS h1 HE2
        go_wp2
        go_roundw
        case rel => exact ⟨k + 1, by go_num, by omega, hB.trans hb1, HS⟩
        case measure => simp [intOf]; omega
      | false =>
        have hE := HE.out
        rw [show encB c = [37, hexd (c.toNat / 16), hexd (c.toNat % 16)] by unfold encB; rw [if_neg (by simp [hp])]] at hE
        have HE2 := Lib.hid hE
        clear HE hE hp
        go_wp2_with fail
        refine (writeByte_calls _ _ _ _ _ hS.out (by rw [Lib.byteCells_length]; omega) hsz).mono ?_
        rintro e w1 ⟨rfl, h1, hb1, -⟩
        rw [show (37 : Int) = ((37 : UInt8).toNat : Int) from rfl, byteCells_snoc] at h1
        have HS := Lib.hid (show Lib.IsBuilder _ _ _ _ _ _ from .inr h1)
        have hB1 := hB.trans hb1
        have hsz1 := hB1.size
        clear hS h1 hb1
        go_wp2_with fail
        refine (writeByte_calls _ _ _ _ _ HS.out (by rw [Lib.byteCells_length]; simp; omega) hsz1).mono ?_
        rintro e w2 ⟨rfl, h1, hb1, -⟩
        rw [byteCells_snoc, hexd_at] at h1
        have HS2 := Lib.hid (show Lib.IsBuilder _ _ _ _ _ _ from .inr h1)
        have hB2 := hB1.trans hb1
        have hsz2 := hB2.size
        clear HS h1 hb1 hB1 hsz1
        go_wp2_with fail
        refine (writeByte_calls _ _ _ _ _ HS2.out (by rw [Lib.byteCells_length]; simp; omega) hsz2).mono ?_
        rintro e w3 ⟨rfl, h1, hb1, -⟩
        rw [byteCells_snoc, hexd_at] at h1
        simp only [List.append_assoc, List.cons_append, List.nil_append] at h1
        rw [← HE2.out] at h1
        have HS3 := Lib.hid (show Lib.IsBuilder _ _ _ _ _ _ from .inr h1)
        have hB3 := hB2.trans hb1
        clear HS2 h1 hb1 hB2 hsz2
        go_wp2
        go_roundw
        case rel => exact ⟨k + 1, by go_num, by omega, hB3, HS3⟩
        case measure => simp [intOf]; omega
    · have h1 := hS.out
      rw [List.take_of_length_le (by simp; omega)] at h1
      have HS := Lib.hid h1
      clear hS h1
      have hsz := hB.size
      go_wp2_with fail
      refine (Tryz.Builder_String_any _ _ _ _ HS.out hsz).mono ?_
      rintro e w1 ⟨rfl, hb1⟩
      go_wp2
      go_ret
      exact ⟨rfl, hB.trans hb1⟩
end Go.Proofs.YtejbkjndipineaaGreatDoor
