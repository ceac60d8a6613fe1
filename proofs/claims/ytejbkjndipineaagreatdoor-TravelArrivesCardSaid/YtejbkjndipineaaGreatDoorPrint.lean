/- Walks of url.Same and url.Print. -/
import Derived.Test.YtejbkjndipineaaGreatDoorUrl3
import Derived.Deep.RegionHeld3
import Derived.Deep.DeepCutAuto
import Derived.Deep.CutBlock
namespace Go.Proofs.YtejbkjndipineaaGreatDoor
open Go Go.RowKit PR
set_option linter.unusedVariables false
set_option linter.unusedSimpArgs false
set_option maxHeartbeats 400000
set_option maxRecDepth 100000

theorem isb_below {T e : TypeId} {B b : Nat} {bs : List Value} {w w' : World} (h : Lib.IsBuilder T e B b bs w) (k : Below w.heap.size w w') : Lib.IsBuilder T e B b bs w' := by
  have f : ∀ p, Lib.BuilderAt T e B b p bs w → Lib.BuilderAt T e B b p bs w' := by
    rintro p ⟨h1, v, hb, ho, hn⟩
    refine ⟨h1, v, (k.block b (Array.getElem?_eq_some_iff.1 hb).1).trans hb, ho.kept (row := none) ⟨k.os, k.tape, k.output, k.size, fun i hi _ => k.block i hi⟩ ?_, hn⟩
    cases v.ownBlock <;> simp
  exact h.imp (f _) (f _)
theorem isb_drew {T e : TypeId} {B b : Nat} {bs : List Value} {w : World} (h : Lib.IsBuilder T e B b bs w) : Lib.IsBuilder T e B b bs w.drew := h
theorem isb_alloc {T e : TypeId} {B b : Nat} {bs : List Value} {w : World} (h : Lib.IsBuilder T e B b bs w) (o : Obj) : Lib.IsBuilder T e B b bs (w.alloc o) := isb_below h (below_alloc (Below.refl _ _) (Nat.le_refl _) o)
theorem strCells_bytes (s : ByteArray) : Lib.strCells s = Lib.byteCells s.data.toList := by simp [Lib.strCells, Lib.byteCells]
theorem byteCells_app (a b : List UInt8) : Lib.byteCells a ++ Lib.byteCells b = Lib.byteCells (a ++ b) := by simp [Lib.byteCells]

theorem same_calls (a b : URL) (p q p2 q2 : Value) (B : Nat → Prop) (w : World) (h1 : Sl eStr w B p a.path) (h2 : Sl ePairS w B q a.query) (h3 : Sl eStr w B p2 b.path) (h4 : Sl ePairS w B q2 b.query) :
    Calls Tryz.prog 20 #[.agg #[p, q], .agg #[p2, q2]] w fun e w' => e = .returned (.bool (decide (a.path = b.path) && decide (a.query = b.query))) ∧ Below w.heap.size w w' := by
  obtain ⟨A, cap, rfl, hcap, hmax, -⟩ := h1.form
  obtain ⟨A2, cap2, rfl, hcap2, hmax2, -⟩ := h2.form
  obtain ⟨A3, cap3, rfl, hcap3, hmax3, -⟩ := h3.form
  obtain ⟨A4, cap4, rfl, hcap4, hmax4, -⟩ := h4.form
  have H1 : Hid (∀ o o', Sl eStr ((w.alloc o).alloc o') B (.slice A a.path.length cap) a.path) := fun o o' => h1.below (below_alloc (below_alloc (Below.refl _ _) (Nat.le_refl _) o) (Nat.le_refl _) o')
  have H3 : Hid (∀ o o', Sl eStr ((w.alloc o).alloc o') B (.slice A3 b.path.length cap3) b.path) := fun o o' => h3.below (below_alloc (below_alloc (Below.refl _ _) (Nat.le_refl _) o) (Nat.le_refl _) o')
  have hB : Hid (∀ o o', Below w.heap.size w ((w.alloc o).alloc o')) := fun o o' => below_alloc (below_alloc (Below.refl _ _) (Nat.le_refl _) o) (Nat.le_refl _) o'
  go_enter Tryz.func20, Tryz.ntmps20
  go_wp2_with fail
  refine (equalStr_calls _ _ _ _ _ _ (H1.out _ _) (H3.out _ _)).mono ?_
  rintro e w1 ⟨rfl, hb1⟩
  have hB1 := below_then (hB.out _ _) (Nat.le_refl _) hb1
  have H2 := Lib.hid (h2.below hB1)
  have H4 := Lib.hid (h4.below hB1)
  have c1 : w1.cell? ⟨w.heap.size, 1, none⟩ = some (.slice A2 a.query.length cap2) := by rw [hb1.cell (p := ⟨w.heap.size, 1, none⟩) (by simp; omega)]; simp
  have c2 : w1.cell? ⟨w.heap.size + 1, 1, none⟩ = some (.slice A4 b.query.length cap4) := by rw [hb1.cell (p := ⟨w.heap.size + 1, 1, none⟩) (by simp)]; simp
  clear hb1
  cases hd : decide (a.path = b.path) with
  | false =>
    have HD := Lib.hid hd
    clear hd
    go_wp2
    go_ret
    exact ⟨by rw [HD.out]; rfl, hB1⟩
  | true =>
    have HD := Lib.hid hd
    clear hd
    go_wp2_with fail
    refine (equalPair_calls _ _ _ _ _ _ H2.out H4.out).mono ?_
    rintro e w2 ⟨rfl, hb2⟩
    go_wp2
    go_ret
    exact ⟨by rw [HD.out]; rfl, below_then hB1 (Nat.le_refl _) hb2⟩

/-- A URL's text, in bytes. -/
def qL : Bool → List Pair → List UInt8
  | _, [] => []
  | f, p :: ps => (if f then 63 else 38) :: (encL p.name.data.toList ++ [61] ++ encL p.value.data.toList) ++ qL false ps
def pL (l : List ByteArray) : List UInt8 := l.flatMap (fun s => 47 :: encL s.data.toList)
def printL (u : URL) : List UInt8 := pL u.path ++ (if u.path.length = 0 then [47] else []) ++ qL true u.query
def printS (u : URL) : ByteArray := if rightS u then ⟨(printL u).toArray⟩ else ⟨#[]⟩

theorem textS_le (s : ByteArray) (n : Int) (h : textS s n = true) : s.size ≤ 64 := by
  simp only [textS, Bool.and_eq_true, decide_eq_true_iff] at h
  omega
theorem rightS_bd (u : URL) (h : rightS u = true) : u.path.length ≤ 8 ∧ u.query.length ≤ 8 ∧ (∀ s ∈ u.path, s.size ≤ 64) ∧ ∀ p ∈ u.query, p.name.size ≤ 64 ∧ p.value.size ≤ 64 := by
  simp only [rightS, Bool.and_eq_true, decide_eq_true_iff, List.all_eq_true] at h
  obtain ⟨⟨⟨h1, h2⟩, h3⟩, h4⟩ := h
  exact ⟨h1, h2, fun s hs => textS_le s 1 (h3 s hs), fun p hp => ⟨textS_le _ 1 (h4 p hp).1, textS_le _ 0 (h4 p hp).2⟩⟩
theorem encS_size (s : ByteArray) : (encS s).size ≤ 3 * s.size := by
  have := encL_len s.data.toList
  rw [data_size] at this
  exact this

theorem qL_app : ∀ (f : Bool) (l : List Pair) (x : Pair), qL f (l ++ [x]) = qL f l ++ ((if f = true ∧ l = [] then 63 else 38) :: (encL x.name.data.toList ++ [61] ++ encL x.value.data.toList))
  | f, [], x => by cases f <;> simp [qL]
  | f, p :: ps, x => by
    rw [List.cons_append, qL, qL, qL_app false ps x]
    simp
theorem qL_snoc (l : List Pair) (k : Nat) (h : k < l.length) : qL true (l.take (k + 1)) = qL true (l.take k) ++ ((if k = 0 then 63 else 38) :: (encL l[k].name.data.toList ++ [61] ++ encL l[k].value.data.toList)) := by
  rw [List.take_succ_eq_append_getElem h, qL_app]
  congr 2
  by_cases hk : k = 0
  · subst hk; simp
  · have : l.take k ≠ [] := by
      intro e
      have := congrArg List.length e
      rw [List.length_take] at this
      simp only [List.length_nil] at this
      omega
    simp [hk, this]

theorem pair_keep {w w' : World} {b t : Nat} {x y : Value} (h : Blk w b [x, y] t) (k : Below w.heap.size w w') : Blk w' b [x, y] t ∧ w'.cell? ⟨b, 0, none⟩ = some x ∧ w'.cell? ⟨b, 1, none⟩ = some y :=
  have q := h.below k h.lt
  ⟨q, q.cell 0, q.cell 1⟩
theorem pair_kept {w w' : World} {c b : Nat} {x y : Value} (k : KeptU c w w') (h : Blk w b [x, y] 52) (hn : b ≠ c) : Blk w' b [x, y] 52 ∧ w'.cell? ⟨b, 0, none⟩ = some x ∧ w'.cell? ⟨b, 1, none⟩ = some y :=
  have q := k.blk h hn (by decide)
  ⟨q, q.cell 0, q.cell 1⟩
theorem pair_keep2 {w w' : World} {b t : Nat} {x y : Value} (h : Blk w b [x, y] t ∧ w.cell? ⟨b, 0, none⟩ = some x ∧ w.cell? ⟨b, 1, none⟩ = some y) (k : Below w.heap.size w w') : Blk w' b [x, y] t ∧ w'.cell? ⟨b, 0, none⟩ = some x ∧ w'.cell? ⟨b, 1, none⟩ = some y := pair_keep h.1 k
theorem pair_kept2 {w w' : World} {c b : Nat} {x y : Value} (k : KeptU c w w') (h : Blk w b [x, y] 52 ∧ w.cell? ⟨b, 0, none⟩ = some x ∧ w.cell? ⟨b, 1, none⟩ = some y) (hn : b ≠ c) : Blk w' b [x, y] 52 ∧ w'.cell? ⟨b, 0, none⟩ = some x ∧ w'.cell? ⟨b, 1, none⟩ = some y := pair_kept k h.1 hn
theorem print_calls (u : URL) (p q : Value) (B : Nat → Prop) (w : World) (hp : Sl eStr w B p u.path) (hq : Sl ePairS w B q u.query) :
    Calls Tryz.prog 10 #[.agg #[p, q]] w fun e w' => e = .returned (.string (printS u)) ∧ Below w.heap.size w w' := by
  obtain ⟨A, cap, rfl, hcap, hmax, -⟩ := hp.form
  obtain ⟨A2, cap2, rfl, hcap2, hmax2, -⟩ := hq.form
  unfold maxLen at hmax hmax2
  have H1 : Hid (∀ o, Sl eStr (w.alloc o) B (.slice A u.path.length cap) u.path) := fun o => hp.below (below_alloc (Below.refl _ _) (Nat.le_refl _) o)
  have H2 : Hid (∀ o, Sl ePairS (w.alloc o) B (.slice A2 u.query.length cap2) u.query) := fun o => hq.below (below_alloc (Below.refl _ _) (Nat.le_refl _) o)
  go_enter Tryz.func10, Tryz.ntmps10
  go_wp2_with fail
  refine (right_calls u _ _ _ _ (H1.out _) (H2.out _)).mono ?_
  rintro e w1 ⟨rfl, hb1⟩
  have hB1 := below_then (below_alloc (Below.refl _ _) (Nat.le_refl _) (.cells #[.slice A u.path.length cap, .slice A2 u.query.length cap2] 32)) (Nat.le_refl _) hb1
  have hblk : Blk w1 w.heap.size [.slice A u.path.length cap, .slice A2 u.query.length cap2] 32 := (Blk.new w _ _).below hb1 (by simp)
  have hz1 := hblk.lt
  clear hb1 H1 H2
  cases hr : rightS u with
  | false =>
    have HR := Lib.hid (show printS u = ⟨#[]⟩ by unfold printS; rw [if_neg (by simp [hr])])
    clear hr
    go_wp2
    go_ret
    exact ⟨by rw [HR.out]; rfl, hB1⟩
  | true =>
    obtain ⟨r1, r2, r3, r4⟩ := rightS_bd u hr
    have HR := Lib.hid (show printS u = ⟨(printL u).toArray⟩ by unfold printS; rw [if_pos hr])
    have HR4 := Lib.hid r4
    clear hr r4
    have c0 := hblk.cell 0
    have c1 := hblk.cell 1
    simp only [List.getElem?_cons_zero, List.getElem?_cons_succ] at c0 c1
    have hp1 := Lib.hid (hp.below hB1)
    have hq1 := Lib.hid (hq.below hB1)
    have hblk' : Hid (∀ o, Blk (w1.alloc o) w.heap.size [.slice A u.path.length cap, .slice A2 u.query.length cap2] 32) := fun o => hblk.alloc o
    clear hblk hp hq
    go_wp2
    go_loopw [14] (fun i wr => ∃ k : Nat, i = .int .i64 k ∧ k ≤ u.path.length ∧ Below w1.heap.size w1 wr ∧ Hid (Lib.IsBuilder 76 5 w1.heap.size w1.heap.size (Lib.byteCells (pL (u.path.take k))) wr) ∧ Hid ((pL (u.path.take k)).length ≤ 200 * k)) (fun i _ => u.path.length - (intOf i).toNat)
    case atStart => exact ⟨0, rfl, by omega, below_alloc (Below.refl _ _) (Nat.le_refl _) _, Lib.hid (builder_new w1), Lib.hid (by simp [pL])⟩
    case round =>
      obtain ⟨k, rfl, hk, hB, hS, hL⟩ := hrel
      have hz := hB.size
      by_cases hlt : k < u.path.length
      · obtain ⟨b, off, rfl, -, -, c, -⟩ := hp1.out.str_at k hlt
        replace c := below_cell hB c
        have h64 := r3 u.path[k] (List.getElem_mem hlt)
        have ht : pL (u.path.take (k + 1)) = pL (u.path.take k) ++ (47 :: encL u.path[k].data.toList) := by
          unfold pL; rw [List.take_succ_eq_append_getElem hlt, List.flatMap_append]; simp only [List.flatMap_cons, List.flatMap_nil, List.append_nil]
        have HT := Lib.hid ht
        clear ht
        generalize u.path[k] = x at *
        have hex := encS_size x
        go_wp2_with fail
        refine (encode_calls x _ (by omega)).mono ?_
        rintro e w2 ⟨rfl, hb2⟩
        have HI := Lib.hid (isb_below hS.out hb2)
        have hL' := hL.out
        generalize pL (u.path.take k) = acc at *
        have hB2 := below_then hB (Nat.le_refl _) hb2
        have hzz := hB2.size
        clear hS hL
        go_wp2_with fail
        refine (writeString_calls _ _ _ _ _ HI.out (by rw [Lib.byteCells_length, ByteArray.size_append]; show acc.length + (1 + _) ≤ _; omega) hzz).mono ?_
        rintro e w3 ⟨rfl, h3, hb3, -⟩
        rw [strCells_bytes, byteCells_app] at h3
        have e3 : acc ++ ((⟨#[47]⟩ : ByteArray) ++ encS x).data.toList = acc ++ (47 :: encL x.data.toList) := by
          simp [encS]
        rw [e3, ← HT.out] at h3
        have HS := Lib.hid (show Lib.IsBuilder _ _ _ _ _ _ from .inr h3)
        have HL := Lib.hid (show (pL (u.path.take (k + 1))).length ≤ 200 * (k + 1) by
          rw [HT.out, List.length_append, List.length_cons]
          have := encL_len x.data.toList
          rw [data_size] at this
          omega)
        clear h3 e3 HI HT hL' hex
        go_wp2
        go_roundw
        case rel => exact ⟨k + 1, by go_num, by omega, hB2.trans hb3, HS, HL⟩
        case measure => simp [intOf]; omega
      · have h1 := hS.out
        have h2 := hL.out
        rw [List.take_of_length_le (by omega)] at h1 h2
        have HS1 := Lib.hid h1
        have hp8 : (pL u.path).length ≤ 1600 := by omega
        clear hS hL h1 h2
        have c0 : wr.cell? ⟨w.heap.size, 0, none⟩ = some (.slice A u.path.length cap) := below_cell hB c0
        have c1x : wr.cell? ⟨w.heap.size, 1, none⟩ = some (.slice A2 u.query.length cap2) := below_cell hB c1
        obtain ⟨wo, rfl⟩ : ∃ wo : World, wo = wr := ⟨_, rfl⟩
        go_upto_if 26 with fail
        go_cut [] (fun wx => ∃ acc0 : List UInt8, Hid (printL u = acc0 ++ qL true u.query) ∧ Hid (Lib.IsBuilder 76 5 w1.heap.size w1.heap.size (Lib.byteCells acc0) wx) ∧ Below w1.heap.size w1 wx ∧ acc0.length ≤ 1700)
        case first =>
          by_cases he : u.path.length = 0
          · have he1 : ((u.path.length : Int) == 0) = true := by simp [he]
            have HA : Hid (printL u = pL u.path ++ [47] ++ qL true u.query) := by unfold printL; rw [if_pos he]; exact Lib.hid rfl
            clear he
            go_wp2_with fail
            refine (writeByte_calls _ _ _ _ _ HS1.out (by rw [Lib.byteCells_length]; omega) hz).mono ?_
            rintro e w2 ⟨rfl, h2, hb2, -⟩
            rw [show (47 : Int) = ((47 : UInt8).toNat : Int) from rfl, byteCells_snoc] at h2
            have HI := Lib.hid (show Lib.IsBuilder _ _ _ _ _ _ from .inr h2)
            go_wp2
            go_meet
            exact ⟨_, HA, HI, hB.trans hb2, by simp; omega⟩
          · have he1 : ((u.path.length : Int) == 0) = false := by rw [beq_eq_false_iff_ne]; omega
            have HA : Hid (printL u = pL u.path ++ qL true u.query) := by unfold printL; rw [if_neg he, List.append_nil]; exact Lib.hid rfl
            clear he
            go_wp2
            go_meet
            exact ⟨_, HA, HS1, hB, by omega⟩
        case rest =>
          clear HS1 hB c0 c1x hz hp8
          obtain ⟨acc0, HA, HI, hBx, hac⟩ := hcut
          replace c1x := below_cell hBx c1
          clear c1
          go_wp2
          go_loopw [31] (fun i wr => ∃ k : Nat, i = .int .i64 k ∧ k ≤ u.query.length ∧ Below w1.heap.size w1 wr ∧ Hid (Lib.IsBuilder 76 5 w1.heap.size w1.heap.size (Lib.byteCells (acc0 ++ qL true (u.query.take k))) wr) ∧ Hid ((qL true (u.query.take k)).length ≤ 400 * k)) (fun i _ => u.query.length - (intOf i).toNat)
          case atStart => exact ⟨0, rfl, by omega, hBx, by have h := HI.out; exact Lib.hid (by simpa [qL] using h), Lib.hid (by simp [qL])⟩
          case round =>
            clear HI hBx c1x
            obtain ⟨k, rfl, hk, hB, hS, hL⟩ := hrel
            have hz := hB.size
            by_cases hlt : k < u.query.length
            · obtain ⟨b, off, rfl, -, -, c, d, -⟩ := hq1.out.pair_at k hlt
              replace c := below_cell hB c
              replace d := below_cell hB d
              have h64 := HR4.out u.query[k] (List.getElem_mem hlt)
              have HT := Lib.hid (qL_snoc u.query k hlt)
              generalize u.query[k] = x at *
              obtain ⟨xn, xv⟩ := x
              simp only at c d h64 HT
              have hex1 := encS_size xn
              have hex2 := encS_size xv
              have hal : Below w1.heap.size w1 (wr.alloc (.cells #[.string xn, .string xv] 52)) := below_alloc hB (Nat.le_refl _) _
              have hlen2 : (acc0 ++ qL true (u.query.take k)).length ≤ 1700 + 400 * k := by have := hL.out; rw [List.length_append]; omega
              have hbl : w1.heap.size < wr.heap.size := hS.out.elim (fun q => q.lt) (fun q => q.lt)
              obtain ⟨wo, rfl⟩ : ∃ wo : World, wo = wr := ⟨_, rfl⟩
              go_upto_if 37 with fail
              go_cut [] (fun wx => Hid (Lib.IsBuilder 76 5 w1.heap.size w1.heap.size (Lib.byteCells (acc0 ++ qL true (u.query.take k) ++ [if k = 0 then 63 else 38])) wx) ∧ Below w1.heap.size w1 wx ∧ Blk wx wo.heap.size [.string xn, .string xv] 52)
              case first =>
                by_cases hk0 : k = 0
                · have hk1 : ((k : Int) == 0) = true := by simp [hk0]
                  have HK0 := Lib.hid hk0
                  clear hk0
                  go_wp2_with fail
                  refine (writeByte_calls _ _ _ _ _ (isb_alloc hS.out _) (by rw [Lib.byteCells_length]; omega) (by have := hal.size; exact this)).mono ?_
                  rintro e w2 ⟨rfl, h2, hb2, hk2⟩
                  rw [show (63 : Int) = ((63 : UInt8).toNat : Int) from rfl, byteCells_snoc] at h2
                  have HI2 := Lib.hid (show Lib.IsBuilder _ _ _ _ _ _ from .inr h2)
                  go_wp2
                  go_meet
                  exact ⟨by rw [if_pos HK0.out]; exact HI2, hal.trans hb2, hk2.blk (Blk.new wo _ _) (by omega) (by decide)⟩
                · have hk1 : ((k : Int) == 0) = false := by rw [beq_eq_false_iff_ne]; omega
                  have HK0 := Lib.hid hk0
                  clear hk0
                  go_wp2_with fail
                  refine (writeByte_calls _ _ _ _ _ (isb_alloc hS.out _) (by rw [Lib.byteCells_length]; omega) (by have := hal.size; exact this)).mono ?_
                  rintro e w2 ⟨rfl, h2, hb2, hk2⟩
                  rw [show (38 : Int) = ((38 : UInt8).toNat : Int) from rfl, byteCells_snoc] at h2
                  have HI2 := Lib.hid (show Lib.IsBuilder _ _ _ _ _ _ from .inr h2)
                  go_wp2
                  go_meet
                  exact ⟨by rw [if_neg HK0.out]; exact HI2, hal.trans hb2, hk2.blk (Blk.new wo _ _) (by omega) (by decide)⟩
              case rest =>
                clear hS hB hz hal c d
                obtain ⟨HI2, hB2, hbx⟩ := hcut
                have hbl := hbx.lt
                have hbo : wo.heap.size ≠ w1.heap.size := by omega
                have e0 := hbx.cell 0
                have e1 := hbx.cell 1
                have hzz := hB2.size
                have hL2 := hL
                simp only [List.getElem?_cons_zero, List.getElem?_cons_succ] at e0 e1
                obtain ⟨acc1, hacc1⟩ : ∃ acc1, acc1 = acc0 ++ qL true (u.query.take k) := ⟨_, rfl⟩
                rw [← hacc1] at HI2 hlen2
                have HACC := Lib.hid hacc1
                clear hacc1
                generalize hch : (if k = 0 then (63 : UInt8) else 38) = ch at HI2 HT
                clear hch
                have g1 : ¬ (9223372036854775807 < (encS xn).size + 1) := by omega
                have g2 : ¬ (9223372036854775807 < (encS xn).size + 1 + (encS xv).size) := by omega
                go_wp2_with fail
                go_region_held3 (fun w' => Blk w' wo.heap.size [.string xn, .string xv] 52 ∧ w'.cell? ⟨wo.heap.size, 0, none⟩ = some (.string xn) ∧ w'.cell? ⟨wo.heap.size, 1, none⟩ = some (.string xv))
                  (first | assumption | exact ⟨hbx, e0, e1⟩ | exact pair_keep (show Blk wc.drew wo.heap.size [.string xn, .string xv] 52 from hbx) hbA | (refine pair_keep2 ?_ hbA; assumption) | (refine pair_kept2 hkC ?_ hbo; assumption) | fail)
                  (first
                  | (go_at_call 26; refine (encode_calls _ _ (by omega)).mono ?_; rintro e wA ⟨rfl, hbA⟩; have zA : w1.heap.size ≤ wA.heap.size := Nat.le_trans (by first | assumption | exact hzz) hbA.size)
                  | (go_at_call 25; refine (writeString_calls w1.heap.size w1.heap.size (Lib.byteCells (acc1 ++ [ch])) _ _ (by repeat (first | exact HI2.out | exact isb_drew HI2.out | refine isb_below ?_ (by assumption))) (by rw [Lib.byteCells_length]; simp [ByteArray.size_append]; have e2 : (⟨#[61]⟩ : ByteArray).size = 1 := rfl; omega) (by omega)).mono ?_; rintro e wC ⟨rfl, hC, hbC, hkC⟩))
                all_goals
                  have hS3 := Lib.hid (show Lib.IsBuilder 76 5 w1.heap.size w1.heap.size (Lib.byteCells (acc0 ++ qL true (u.query.take (k + 1)))) wC by
                    have e3 : acc1 ++ [ch] ++ (encS xn ++ ⟨#[61]⟩ ++ encS xv).data.toList = acc0 ++ qL true (u.query.take (k + 1)) := by
                      rw [HT.out, HACC.out]
                      simp [encS]
                    rw [← e3, ← byteCells_app, ← strCells_bytes]
                    exact .inr hC)
                  have hL3 := Lib.hid (show (qL true (u.query.take (k + 1))).length ≤ 400 * (k + 1) by
                    rw [HT.out, List.length_append, List.length_cons, List.length_append, List.length_append]
                    have q1 := hL2.out
                    have q2 : (encL xn.data.toList).length = (encS xn).size := rfl
                    have q3 : (encL xv.data.toList).length = (encS xv).size := rfl
                    simp only [List.length_cons, List.length_nil]
                    omega)
                  have hB3 : Below w1.heap.size w1 wC := Below.trans (Below.trans (Below.trans (Below.drew hB2) (Below.mono (by assumption : Below _ wc.drew _) hzz)) (Below.mono hbA (by assumption))) hbC
                  clear HI2 hC hB2 hbC HT hL2 e0 e1 hbx hzz
                  go_wp2
                  go_roundw
                  case rel => exact ⟨k + 1, by go_num, by omega, hB3, hS3, hL3⟩
                  case measure => simp [intOf]; omega
            · have h1 := hS.out
              rw [List.take_of_length_le (by omega), ← HA.out] at h1
              have HS := Lib.hid h1
              clear hS h1
              go_wp2_with fail
              refine (Tryz.Builder_String_any _ _ _ _ HS.out hz).mono ?_
              rintro e w2 ⟨rfl, hb2⟩
              go_wp2
              go_ret
              exact ⟨by rw [HR.out]; rfl, below_then hB1 (Nat.le_refl _) (hB.trans hb2)⟩
end Go.Proofs.YtejbkjndipineaaGreatDoor
