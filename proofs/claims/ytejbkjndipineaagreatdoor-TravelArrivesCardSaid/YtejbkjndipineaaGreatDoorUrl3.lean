/- Walks of url.query, url.Parse, url.Same. -/
import Derived.Test.YtejbkjndipineaaGreatDoorUrl2
namespace Go.Proofs.YtejbkjndipineaaGreatDoor
open Go Go.RowKit PR
set_option linter.unusedVariables false
set_option linter.unusedSimpArgs false
set_option maxHeartbeats 400000
set_option maxRecDepth 100000

/-- Pieces of a query decoded, no more than eight. -/
def qAll (acc : List Pair) : List ByteArray → List Pair × Bool
  | [] => (acc, true)
  | x :: xs => if (decS (cutS 61 x).1).2 = false ∨ (decS (cutS 61 x).2.1).2 = false ∨ acc.length = 8 then ([], false) else qAll (acc ++ [⟨(decS (cutS 61 x).1).1, (decS (cutS 61 x).2.1).1⟩]) xs
def queryS (s : ByteArray) : List Pair × Bool := qAll [] (spS 38 s)

theorem query_calls (s : ByteArray) (w : World) (hs : s.size ≤ 16777216) (hg : GV w) :
    Calls Tryz.prog 31 #[.string s] w fun e w' => ∃ v, e = .returned (.tuple #[v, .bool (queryS s).2]) ∧ Sl ePairS w' (fun b => w.heap.size ≤ b) v (queryS s).1 ∧ Below w.heap.size w w' := by
  go_enter Tryz.func31, Tryz.ntmps31
  go_wp2_with fail
  refine (split_calls s 38 _ hs hg).mono ?_
  rintro e w1 ⟨A, cap, rfl, hsl, hb1⟩
  have hds : ∀ x ∈ spS 38 s, x.size ≤ s.size := fun x hx => spS_size _ _ x hx
  have HP := Lib.hid (show queryS s = qAll [] (spS 38 s) from rfl)
  generalize spS 38 s = xs at *
  have hml := hsl.len_eq.2
  unfold maxLen at hml
  have HG := Lib.hid (hg.below hb1)
  clear hg
  have hz1 := hb1.size
  go_wp2
  go_loopw [4, 17] (fun v i wr => ∃ (k : Nat) (acc : List Pair), i = .int .i64 k ∧ k ≤ xs.length ∧ acc.length ≤ 8 ∧ Ow ePairS 52 wr (fun _ => False) v acc ∧ (∀ g, v.ownBlock = some g → w1.heap.size ≤ g) ∧ Below w1.heap.size w1 wr ∧ Hid (qAll acc (xs.drop k) = queryS s)) (fun _ i _ => xs.length - (intOf i).toNat)
  case atStart => exact ⟨0, [], rfl, by omega, by simp, Ow.nil _ _ _ _, by simp [Value.ownBlock], Below.refl _ _, Lib.hid (by rw [HP.out]; rfl)⟩
  case round =>
    obtain ⟨k, acc, rfl, hk, h8, hown, hgb, hB, hD⟩ := hrel
    have hBw := below_then hb1 (Nat.le_refl _) hB
    by_cases hlt : k < xs.length
    · obtain ⟨b, off, rfl, -, -, c, -⟩ := hsl.str_at k hlt
      have hxs := hds xs[k] (List.getElem_mem hlt)
      replace c := below_cell hB c
      have hD' := hD.out
      rw [List.drop_eq_getElem_cons hlt, qAll] at hD'
      generalize xs[k] = x at *
      have hcz := cutS_size 61 x
      clear hD
      obtain ⟨A0, cap0, rfl, hc0, hm0⟩ := hown.form
      unfold maxLen at hm0
      go_wp2_with fail
      refine (cut_calls x 61 _ (by omega) (HG.out.below hB)).mono ?_
      rintro e w2 ⟨rfl, hb2⟩
      generalize cutS 61 x = cx at hcz hD' ⊢
      obtain ⟨cn, cv, cb⟩ := cx
      simp only at hcz hD' ⊢
      have hdn := decS_size cn
      have hdv := decS_size cv
      go_wp2_with fail
      refine (decode_calls cn _ (by omega)).mono ?_
      rintro e w3 ⟨rfl, hb3⟩
      go_wp2_with fail
      refine (decode_calls cv _ (by omega)).mono ?_
      rintro e w4 ⟨rfl, hb4⟩
      generalize decS cn = dn at hD' hdn ⊢
      obtain ⟨nv, nk⟩ := dn
      generalize decS cv = dv at hD' hdv ⊢
      obtain ⟨vv, vk⟩ := dv
      simp only at hD' hdn hdv ⊢
      have h24 : Below wr.heap.size wr w4 := below_then (below_then hb2 (Nat.le_refl _) hb3) (Nat.le_refl _) hb4
      have hown2 := (hown.below h24).plain (fun _ c => c.1)
      have hB2 := below_then hB (Nat.le_refl _) h24
      have hBw2 := below_then hBw (Nat.le_refl _) h24
      have hz2 := h24.size
      clear hb2 hb3 hb4 hown
      cases nk with
      | false =>
        rw [if_pos (.inl rfl)] at hD'
        have HD := Lib.hid hD'
        clear hD'
        go_wp2
        go_ret2
        exact ⟨_, by rw [← HD.out]; rfl, by rw [← HD.out]; exact Sl.nil _ _ _, hBw2⟩
      | true =>
        cases vk with
        | false =>
          rw [if_pos (.inr (.inl rfl))] at hD'
          have HD := Lib.hid hD'
          clear hD'
          go_wp2
          go_ret2
          exact ⟨_, by rw [← HD.out]; rfl, by rw [← HD.out]; exact Sl.nil _ _ _, hBw2⟩
        | true =>
          by_cases h8' : acc.length = 8
          · rw [if_pos (.inr (.inr h8'))] at hD'
            have hq : ((acc.length : Int) == 8) = true := by simp [h8']
            have HD := Lib.hid hD'
            clear hD' h8'
            go_wp2
            go_ret2
            exact ⟨_, by rw [← HD.out]; rfl, by rw [← HD.out]; exact Sl.nil _ _ _, hBw2⟩
          · rw [if_neg (by simp [h8'])] at hD'
            have hq : ((acc.length : Int) == 8) = false := by simp; omega
            have HD := Lib.hid hD'
            have h7 : acc.length ≤ 7 := by omega
            clear hD' h8'
            go_wp2_with (at_builtin; refine wp_app ePairS rfl (.tmp 48) (.tmp 52) 30 52 rfl Tryz.underlying30 (.agg #[.string ⟨#[]⟩, .string ⟨#[]⟩]) 32 infoPair rfl (by decide) (fun _ => False) _ acc rfl ?own _ [⟨nv, vv⟩] rfl ?src ?c3 ?c4 ?_)
            case own => exact (hown2.below (below_alloc (Below.refl _ _) (Nat.le_refl _) _)).plain (fun _ c => c.1)
            case src => exact one_new ePairS w4 (fun _ => False) ⟨nv, vv⟩ _ 52 (ePair_mk _ _ _ (by unfold maxLen; show nv.size ≤ _; omega) (by unfold maxLen; show vv.size ≤ _; omega)) (fun b c => False.elim c)
            case c3 => unfold maxLen; show acc.length + 1 ≤ _; omega
            case c4 => show (acc.length + 1) * 32 ≤ _; omega
            intro v' w' hown' hg' hv'
            have hgb' := app_own (B := w1.heap.size) (w2 := w4) (o := .cells #[.string nv, .string vv] 52) (by simpa using hv') hgb (by have := hB2.size; omega)
            have hBn := app_below hB2 (Nat.le_refl _) hg' hgb
            clear hown2 hv' hg' hBw2
            go_wp2
            go_roundw
            case rel => exact ⟨k + 1, acc ++ [⟨nv, vv⟩], by go_num, by omega, by simp; omega, hown', hgb', hBn, HD⟩
            case measure => simp [intOf]; omega
    · have hD' := hD.out
      rw [List.drop_eq_nil_of_le (by omega), qAll] at hD'
      have HD := Lib.hid hD'
      clear hD hD'
      go_wp2
      go_ret2
      exact ⟨_, by rw [← HD.out]; rfl, by rw [← HD.out]; exact hown.sl (fun _ c _ => False.elim c) (fun g hg => by have := hgb g hg; omega), hBw⟩

/-- A text's URL, and what is wrong. -/
def parseF (p : List ByteArray) (q : List Pair × Bool) : URL × Int := if q.2 = true ∧ rightS ⟨p, q.1⟩ = true then (⟨p, q.1⟩, 0) else (⟨[], []⟩, 1)
def parseS (s : ByteArray) : URL × Int :=
  parseF (pathS (cutS 63 s).1).1 (if (cutS 63 s).2.2 = true ∧ (pathS (cutS 63 s).1).2 = true then queryS (cutS 63 s).2.1 else ([], (pathS (cutS 63 s).1).2))
theorem parse_end (w w' : World) (p q : Value) (u : URL) (e : Int) (x : Value) (r : URL × Int) (hr : r = (u, e)) (hx : Ending.returned x = Ending.returned (.tuple #[.agg #[p, q], .int .i64 e])) (hp : Sl eStr w' (fun b => w.heap.size ≤ b) p u.path) (hq : Sl ePairS w' (fun b => w.heap.size ≤ b) q u.query) (hB : Below w.heap.size w w') :
    ∃ p q, Ending.returned x = .returned (.tuple #[.agg #[p, q], .int .i64 r.2]) ∧ Sl eStr w' (fun b => w.heap.size ≤ b) p r.1.path ∧ Sl ePairS w' (fun b => w.heap.size ≤ b) q r.1.query ∧ Below w.heap.size w w' := by
  subst hr
  exact ⟨p, q, hx, hp, hq, hB⟩

theorem parse_calls (s : ByteArray) (w : World) (hs : s.size ≤ 16777216) (hg : GV w) :
    Calls Tryz.prog 15 #[.string s] w fun e w' => ∃ p q, e = .returned (.tuple #[.agg #[p, q], .int .i64 (parseS s).2]) ∧ Sl eStr w' (fun b => w.heap.size ≤ b) p (parseS s).1.path ∧ Sl ePairS w' (fun b => w.heap.size ≤ b) q (parseS s).1.query ∧ Below w.heap.size w w' := by
  have hcz := cutS_size 63 s
  have HP : Hid (parseS s = parseF (pathS (cutS 63 s).1).1 (if (cutS 63 s).2.2 = true ∧ (pathS (cutS 63 s).1).2 = true then queryS (cutS 63 s).2.1 else ([], (pathS (cutS 63 s).1).2))) := Lib.hid rfl
  go_enter Tryz.func15, Tryz.ntmps15
  go_wp2_with fail
  have hB0 : Below w.heap.size w ((w.alloc (.cells #[.slice none 0 0, .slice none 0 0] 32)).alloc (.cells #[.slice none 0 0, .slice none 0 0] 32)) := below_alloc (below_alloc (Below.refl _ _) (Nat.le_refl _) _) (Nat.le_refl _) _
  have hr1 : Blk ((w.alloc (.cells #[.slice none 0 0, .slice none 0 0] 32)).alloc (.cells #[.slice none 0 0, .slice none 0 0] 32)) w.heap.size [.slice none 0 0, .slice none 0 0] 32 := (Blk.new w _ _).alloc _
  have hu1 : Blk ((w.alloc (.cells #[.slice none 0 0, .slice none 0 0] 32)).alloc (.cells #[.slice none 0 0, .slice none 0 0] 32)) (w.heap.size + 1) [.slice none 0 0, .slice none 0 0] 32 := by
    have := Blk.new (w.alloc (.cells #[.slice none 0 0, .slice none 0 0] 32)) [.slice none 0 0, .slice none 0 0] 32
    simpa using this
  have hz : ((w.alloc (.cells #[.slice none 0 0, .slice none 0 0] 32)).alloc (.cells #[.slice none 0 0, .slice none 0 0] 32)).heap.size = w.heap.size + 2 := by simp
  generalize (w.alloc (.cells #[.slice none 0 0, .slice none 0 0] 32)).alloc (.cells #[.slice none 0 0, .slice none 0 0] 32) = w0 at *
  have hz' : w.heap.size + 2 ≤ w0.heap.size := by omega
  clear hz
  refine (cut_calls s 63 _ hs (hg.below hB0)).mono ?_
  rintro e w1 ⟨rfl, hb1⟩
  generalize cutS 63 s = cx at hcz HP ⊢
  obtain ⟨ca, cb, ck⟩ := cx
  simp only at hcz HP ⊢
  go_wp2_with fail
  have hB1 := below_then hB0 (Nat.le_refl _) hb1
  refine (path_calls ca _ (by omega) (hg.below hB1)).mono ?_
  rintro e w2 ⟨pv, rfl, hp2, hb2⟩
  generalize pathS ca = px at hp2 HP ⊢
  obtain ⟨pl, pk⟩ := px
  simp only at hp2 HP ⊢
  have h02 := below_then hb1 (Nat.le_refl _) hb2
  have hB2 := below_then hB0 (Nat.le_refl _) h02
  have hr2 := hr1.below h02 hr1.lt
  have hu2 := hu1.below h02 hu1.lt
  have hzz := h02.size
  replace hp2 : Sl eStr w2 (fun b => w.heap.size + 2 ≤ b) pv pl := hp2.mono (fun b hb => by have := hb1.size; omega)
  clear hb1 hb2 hr1 hu1 hB0 hB1
  have c0 := hu2.cell 0
  have c1 := hu2.cell 1
  have f0 := hu2.frozen 0
  have f1 := hu2.frozen 1
  have d0 := hr2.cell 0
  have d1 := hr2.cell 1
  have k0 := hr2.frozen 0
  have k1 := hr2.frozen 1
  simp only [List.getElem?_cons_zero, List.getElem?_cons_succ] at c0 c1 d0 d1
  obtain ⟨Ap, capp, rfl, hcp, hmp, -⟩ := hp2.form
  have hset : ∀ v : Value, Below w.heap.size w (w2.setCell ⟨w.heap.size + 1, 0, none⟩ v) := fun v => hB2.setCell (by simp) v
  cases pk with
  | false =>
    have HE := Lib.hid (show parseS s = (⟨[], []⟩, 1) by rw [HP.out, if_neg (by simp)]; simp [parseF])
    clear HP
    cases ck with
    | false =>
      go_wp2
      refine bodyPost_ret (v := .tuple #[.agg #[.slice none 0 0, .slice none 0 0], .int .i64 1]) (by simp [results, Tryz.results15, go_sem, d0, d1, c0, c1]) rfl ?_
      exact parse_end _ _ _ _ _ _ _ _ HE.out rfl (Sl.nil _ _ _) (Sl.nil _ _ _) (((hset _).setCell (Nat.le_refl _) _).setCell (Nat.le_refl _) _)
    | true =>
      go_wp2
      refine bodyPost_ret (v := .tuple #[.agg #[.slice none 0 0, .slice none 0 0], .int .i64 1]) (by simp [results, Tryz.results15, go_sem, d0, d1, c0, c1]) rfl ?_
      exact parse_end _ _ _ _ _ _ _ _ HE.out rfl (Sl.nil _ _ _) (Sl.nil _ _ _) (((hset _).setCell (Nat.le_refl _) _).setCell (Nat.le_refl _) _)
  | true =>
    have hpS : ∀ v : Value, Sl eStr (w2.setCell ⟨w.heap.size + 1, 0, none⟩ v) (fun b => w.heap.size + 2 ≤ b) (.slice Ap pl.length capp) pl := fun v => hp2.move (fun b hb hl => ⟨hb, Below.heap_setCell _ _ _ _ (by simp; omega)⟩)
    cases ck with
    | false =>
      have HE := Lib.hid (show parseS s = parseF pl ([], true) by rw [HP.out, if_neg (by simp)])
      clear HP
      have hpH := Lib.hid hpS
      clear hpS
      have HUa : Hid (∀ v : Value, Blk (w2.setCell ⟨w.heap.size + 1, 0, none⟩ v) (w.heap.size + 1) [v, .slice none 0 0] 32) := fun v => hu2.set 0 v
      have HRa : Hid (∀ v : Value, Blk (w2.setCell ⟨w.heap.size + 1, 0, none⟩ v) w.heap.size [.slice none 0 0, .slice none 0 0] 32) := fun v => hr2.set_ne _ v (by simp)
      go_wp2_with fail
      refine (right_calls ⟨pl, []⟩ _ _ _ _ (hpH.out _) (Sl.nil ePairS _ (fun b => w.heap.size + 2 ≤ b))).mono ?_
      rintro e w3 ⟨rfl, hb3⟩
      have hu3 := Blk.below (HUa.out _) hb3 (Blk.lt (HUa.out _))
      have hr3 := Blk.below (HRa.out _) hb3 (Blk.lt (HRa.out _))
      have hp3 := Sl.below (hpH.out _) hb3
      have hq3 := Sl.below (Sl.nil ePairS _ (fun b => w.heap.size + 2 ≤ b)) hb3
      have hB3 := below_then (hset _) (Nat.le_refl _) hb3
      clear hb3
      have e0 := hu3.cell 0
      have e1 := hu3.cell 1
      have g0 := hr3.cell 0
      have g1 := hr3.cell 1
      have m0 := hr3.frozen 0
      have m1 := hr3.frozen 1
      simp only [List.getElem?_cons_zero, List.getElem?_cons_succ] at e0 e1 g0 g1
      clear hu3 hr3
      cases hk : rightS ⟨pl, []⟩ with
      | false =>
        have HF := Lib.hid (show parseS s = (⟨[], []⟩, 1) by rw [HE.out, parseF, if_neg (by simp [hk])])
        clear HE hk
        go_wp2
        refine bodyPost_ret (v := .tuple #[.agg #[.slice none 0 0, .slice none 0 0], .int .i64 1]) (by simp [results, Tryz.results15, go_sem, g0, g1]) rfl ?_
        exact parse_end _ _ _ _ _ _ _ _ HF.out rfl (Sl.nil _ _ _) (Sl.nil _ _ _) ((hB3.setCell (Nat.le_refl _) _).setCell (Nat.le_refl _) _)
      | true =>
        have HF := Lib.hid (show parseS s = (⟨pl, []⟩, 0) by rw [HE.out, parseF, if_pos (by simp [hk])])
        clear HE hk
        go_wp2
        refine bodyPost_ret (v := .tuple #[.agg #[.slice Ap pl.length capp, .slice none 0 0], .int .i64 0]) (by simp [results, Tryz.results15, go_sem, g0, g1, e0, e1]) rfl ?_
        exact parse_end _ _ _ _ _ _ _ _ HF.out rfl (hp3.move (fun b hb hl => ⟨by omega, by rw [Below.heap_setCell _ _ _ _ (by simp; omega), Below.heap_setCell _ _ _ _ (by simp; omega)]⟩)) (hq3.move (fun b hb hl => ⟨by omega, by rw [Below.heap_setCell _ _ _ _ (by simp; omega), Below.heap_setCell _ _ _ _ (by simp; omega)]⟩)) ((hB3.setCell (Nat.le_refl _) _).setCell (Nat.le_refl _) _)
    | true =>
      have HE0 := Lib.hid (show parseS s = parseF pl (queryS cb) by rw [HP.out, if_pos (by simp)])
      clear HP
      have hpH := Lib.hid hpS
      clear hpS
      have HUa : Hid (∀ v : Value, Blk (w2.setCell ⟨w.heap.size + 1, 0, none⟩ v) (w.heap.size + 1) [v, .slice none 0 0] 32) := fun v => hu2.set 0 v
      have HRa : Hid (∀ v : Value, Blk (w2.setCell ⟨w.heap.size + 1, 0, none⟩ v) w.heap.size [.slice none 0 0, .slice none 0 0] 32) := fun v => hr2.set_ne _ v (by simp)
      go_wp2_with fail
      refine (query_calls cb _ (by omega) (hg.below (hset _))).mono ?_
      rintro e w3 ⟨qv, rfl, hq3, hb3⟩
      have hz2 := hb3.size
      have hza : (w2.setCell ⟨w.heap.size + 1, 0, none⟩ (.slice Ap pl.length capp)).heap.size = w2.heap.size := by simp [World.setCell]
      have hu3 := (HUa.out (.slice Ap pl.length capp)).below hb3 (HUa.out _).lt
      have hr3 := (HRa.out (.slice Ap pl.length capp)).below hb3 (HRa.out _).lt
      have HPq := Lib.hid ((hpH.out (.slice Ap pl.length capp)).below hb3)
      have HQq := Lib.hid (show Sl ePairS w3 (fun b => w.heap.size + 2 ≤ b) qv (queryS cb).1 from hq3.mono (fun b hb => by omega))
      have HBq := Lib.hid (below_then (hset (.slice Ap pl.length capp)) (Nat.le_refl _) hb3)
      clear hq3 hb3 hza HUa HRa hpH
      generalize queryS cb = qx at *
      obtain ⟨ql, qk⟩ := qx
      simp only at HQq HE0 ⊢
      obtain ⟨Aq, capq, rfl, hcq, hmq, -⟩ := HQq.out.form
      clear c0 c1 f0 f1 d0 d1 k0 k1 hset hu2 hr2 h02 hp2 hB2
      have c1 := hu3.cell 1
      have f1 := hu3.frozen 1
      have d0 := hr3.cell 0
      have d1 := hr3.cell 1
      have k0 := hr3.frozen 0
      have k1 := hr3.frozen 1
      have c0 := hu3.cell 0
      simp only [List.getElem?_cons_zero, List.getElem?_cons_succ] at c0 c1 d0 d1
      cases qk with
      | false =>
        have HE := Lib.hid (show parseS s = (⟨[], []⟩, 1) by rw [HE0.out]; simp [parseF])
        clear HE0
        go_wp2
        refine bodyPost_ret (v := .tuple #[.agg #[.slice none 0 0, .slice none 0 0], .int .i64 1]) (by simp [results, Tryz.results15, go_sem, d0, d1, c0, c1]) rfl ?_
        exact parse_end _ _ _ _ _ _ _ _ HE.out rfl (Sl.nil _ _ _) (Sl.nil _ _ _) (((HBq.out.setCell (by simp) _).setCell (Nat.le_refl _) _).setCell (Nat.le_refl _) _)
      | true =>
        have HE := Lib.hid (show parseS s = parseF pl (ql, true) from HE0.out)
        clear HE0
        have HPb : Hid (Sl eStr (w3.setCell ⟨w.heap.size + 1, 1, none⟩ (.slice Aq ql.length capq)) (fun b => w.heap.size + 2 ≤ b) (.slice Ap pl.length capp) pl) := HPq.out.move (fun b hb hl => ⟨hb, Below.heap_setCell _ _ _ _ (by simp; omega)⟩)
        have HQb : Hid (Sl ePairS (w3.setCell ⟨w.heap.size + 1, 1, none⟩ (.slice Aq ql.length capq)) (fun b => w.heap.size + 2 ≤ b) (.slice Aq ql.length capq) ql) := HQq.out.move (fun b hb hl => ⟨hb, Below.heap_setCell _ _ _ _ (by simp; omega)⟩)
        have HUb : Hid (Blk (w3.setCell ⟨w.heap.size + 1, 1, none⟩ (.slice Aq ql.length capq)) (w.heap.size + 1) [.slice Ap pl.length capp, .slice Aq ql.length capq] 32) := hu3.set 1 _
        have HRb : Hid (Blk (w3.setCell ⟨w.heap.size + 1, 1, none⟩ (.slice Aq ql.length capq)) w.heap.size [.slice none 0 0, .slice none 0 0] 32) := hr3.set_ne _ _ (by simp)
        have HBb : Hid (Below w.heap.size w (w3.setCell ⟨w.heap.size + 1, 1, none⟩ (.slice Aq ql.length capq))) := HBq.out.setCell (by simp) _
        clear HPq HQq HBq hu3 hr3
        go_wp2_with fail
        refine (right_calls ⟨pl, ql⟩ _ _ _ _ HPb.out HQb.out).mono ?_
        rintro e w3 ⟨rfl, hb3⟩
        have hu3 := Blk.below HUb.out hb3 (Blk.lt HUb.out)
        have hr3 := Blk.below HRb.out hb3 (Blk.lt HRb.out)
        have hp3 := Sl.below HPb.out hb3
        have hq3 := Sl.below HQb.out hb3
        have hB3 := below_then HBb.out (Nat.le_refl _) hb3
        clear hb3
        have e0 := hu3.cell 0
        have e1 := hu3.cell 1
        have g0 := hr3.cell 0
        have g1 := hr3.cell 1
        have m0 := hr3.frozen 0
        have m1 := hr3.frozen 1
        simp only [List.getElem?_cons_zero, List.getElem?_cons_succ] at e0 e1 g0 g1
        clear hu3 hr3
        cases hk : rightS ⟨pl, ql⟩ with
        | false =>
          have HF := Lib.hid (show parseS s = (⟨[], []⟩, 1) by rw [HE.out, parseF, if_neg (by simp [hk])])
          clear HE hk
          go_wp2
          refine bodyPost_ret (v := .tuple #[.agg #[.slice none 0 0, .slice none 0 0], .int .i64 1]) (by simp [results, Tryz.results15, go_sem, g0, g1]) rfl ?_
          exact parse_end _ _ _ _ _ _ _ _ HF.out rfl (Sl.nil _ _ _) (Sl.nil _ _ _) ((hB3.setCell (Nat.le_refl _) _).setCell (Nat.le_refl _) _)
        | true =>
          have HF := Lib.hid (show parseS s = (⟨pl, ql⟩, 0) by rw [HE.out, parseF, if_pos (by simp [hk])])
          clear HE hk
          go_wp2
          refine bodyPost_ret (v := .tuple #[.agg #[.slice Ap pl.length capp, .slice Aq ql.length capq], .int .i64 0]) (by simp [results, Tryz.results15, go_sem, g0, g1, e0, e1]) rfl ?_
          exact parse_end _ _ _ _ _ _ _ _ HF.out rfl (hp3.move (fun b hb hl => ⟨by omega, by rw [Below.heap_setCell _ _ _ _ (by simp; omega), Below.heap_setCell _ _ _ _ (by simp; omega)]⟩)) (hq3.move (fun b hb hl => ⟨by omega, by rw [Below.heap_setCell _ _ _ _ (by simp; omega), Below.heap_setCell _ _ _ _ (by simp; omega)]⟩)) ((hB3.setCell (Nat.le_refl _) _).setCell (Nat.le_refl _) _)
end Go.Proofs.YtejbkjndipineaaGreatDoor
