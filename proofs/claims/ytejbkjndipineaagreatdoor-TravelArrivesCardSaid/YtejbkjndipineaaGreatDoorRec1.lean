/- What porticokeep's Table.Records makes: plain words, and the walk's lemmas. -/
import Derived.Test.YtejbkjndipineaaGreatDoorTo
import Derived.Test.YtejbkjndipineaaGreatDoorOp2
import Derived.Deep.DeepCutAuto
import Derived.Deep.CutBlock
import Derived.Deep.RegionHeld3
import Derived.StillTailTactics
namespace Go.Proofs.YtejbkjndipineaaGreatDoor
open Go Go.RowKit PR
set_option linter.unusedVariables false
set_option linter.unusedSimpArgs false
set_option maxHeartbeats 400000
set_option maxRecDepth 100000

/-- A law's table of numbers. -/
structure Table where
  parents : List Int
  kinds : List Int
  texts : List Int
  rules : List Int
  flags : List Int
  keeps : List Int
  comps : List Int
def tabTexts : List ByteArray := [⟨#[97]⟩, ⟨#[98]⟩, ⟨#[105, 116, 101, 109]⟩, ⟨#[122]⟩, ⟨#[49]⟩, ⟨#[108, 105, 115, 116]⟩]
/-- A segment as a table's records have them. -/
structure SegMade (s : Seg) : Prop where
  k0 : 0 ≤ s.kind
  k3 : s.kind ≤ 3
  text : s.kind = 0 → s.text ∈ tabTexts
  size : s.text.size ≤ 4
/-- Records as a table makes them. -/
structure Made (rs : List Record) : Prop where
  pos : 1 ≤ rs.length
  len : rs.length ≤ 8
  par : ∀ i (h : i < rs.length), -1 ≤ rs[i].parent ∧ rs[i].parent < i
  segs : ∀ i (h : i < rs.length), rs[i].segs.length ≤ 1
  first : ∀ h : 0 < rs.length, rs[0].segs = []
  made : ∀ i (h : i < rs.length), ∀ s ∈ rs[i].segs, SegMade s
  name : ∀ i (h : i < rs.length), rs[i].name.size ≤ 4
  toS : ∀ i (h : i < rs.length), rs[i].rule.to.size ≤ 4
theorem Made.small {rs : List Record} (h : Made rs) : Small rs :=
  ⟨h.pos, by have := h.len; omega, h.par, fun i hi => by have := h.segs i hi; omega, fun i hi s hs => by have := (h.made i hi s hs).size; omega⟩

theorem conv_one (w : World) (k : Nat) (hk : k < 7) : ∃ nb : ByteArray, nb.size = 1 ∧ Sem.run Tryz.prog (convert 56 9 (.slice (some ⟨w.heap.size, 0, none⟩) 1 1)) (w.alloc (.cells #[.int .u8 (97 + (k : Int))] 5)) = .ok (.string nb) (w.alloc (.cells #[.int .u8 (97 + (k : Int))] 5)) := by
  refine ⟨⟨#[UInt8.ofNat (97 + k)]⟩, rfl, ?_⟩
  refine run_convert_bytes_back _ _ _ 5 ⟨w.heap.size, 0, none⟩ 1 [UInt8.ofNat (97 + k)] Tryz.underlying56 Tryz.underlying5 Tryz.underlying9 (fun j hj => ?_)
  obtain rfl : j = 0 := (by simp at hj; omega)
  have h1 := (Blk.new w [.int .u8 (97 + (k : Int))] 5).cell 0
  have e1 : (⟨w.heap.size, 0, none⟩ : Addr).add 0 = ⟨w.heap.size, 0, none⟩ := by unfold Addr.add; split <;> simp_all
  rw [e1]
  refine h1.trans ?_
  simp
  omega
theorem rec_keep {w : World} {a b c d : Addr} {x y z u : Value} (h : w.cell? a = some x ∧ w.cell? b = some y ∧ w.cell? c = some z ∧ w.cell? d = some u) (o : Obj) : (w.alloc o).cell? a = some x ∧ (w.alloc o).cell? b = some y ∧ (w.alloc o).cell? c = some z ∧ (w.alloc o).cell? d = some u := by
  have hb := below_alloc (Below.refl w.heap.size w) (Nat.le_refl _) o
  exact ⟨below_cell hb h.1, below_cell hb h.2.1, below_cell hb h.2.2.1, below_cell hb h.2.2.2⟩
theorem rec_below {w w' : World} {a b c d : Addr} {x y z u : Value} (h : w.cell? a = some x ∧ w.cell? b = some y ∧ w.cell? c = some z ∧ w.cell? d = some u) (hb : Below w.heap.size w w') : w'.cell? a = some x ∧ w'.cell? b = some y ∧ w'.cell? c = some z ∧ w'.cell? d = some u :=
  ⟨below_cell hb h.1, below_cell hb h.2.1, below_cell hb h.2.2.1, below_cell hb h.2.2.2⟩
/-- A record under way: its block, its one segment. -/
def RecAt (wo wx : World) (rb : Nat) (sg : Seg) (p : Int) : Prop :=
  ∃ (r : Record) (sv : Value), Blk wx rb [.string r.name, .int .i64 r.parent, sv, .int .i64 r.comp, .bool r.keep, .int .i64 r.rule.kind, .int .i64 r.rule.flag, .string r.rule.to] 46 ∧ Sl eSeg wx (fun b => wo.heap.size ≤ b ∧ b ≠ rb) sv [sg] ∧ r.segs = [sg] ∧ r.parent = p ∧ r.name.size ≤ 4 ∧ r.rule.to.size ≤ 4 ∧ wo.heap.size ≤ rb ∧ Below wo.heap.size wo wx
theorem RecAt.below {wo wx : World} {rb : Nat} {sg : Seg} {p : Int} (h : RecAt wo wx rb sg p) : Below wo.heap.size wo wx := by
  obtain ⟨_, _, _, _, _, _, _, _, _, h⟩ := h
  exact h
theorem RecAt.cells {wo wx : World} {rb : Nat} {sg : Seg} {p : Int} (h : RecAt wo wx rb sg p) : (∃ x, wx.cell? ⟨rb, 5, none⟩ = some (.int .i64 x)) ∧ (∃ x, wx.cell? ⟨rb, 6, none⟩ = some (.int .i64 x)) ∧ (∃ x, wx.cell? ⟨rb, 7, none⟩ = some (.string x)) ∧ wx.frozen? ⟨rb, 5, none⟩ = false ∧ wx.frozen? ⟨rb, 6, none⟩ = false ∧ wx.frozen? ⟨rb, 7, none⟩ = false := by
  obtain ⟨r, sv, hb, -⟩ := h
  exact ⟨⟨_, hb.cell 5⟩, ⟨_, hb.cell 6⟩, ⟨_, hb.cell 7⟩, hb.frozen 5, hb.frozen 6, hb.frozen 7⟩
theorem RecAt.drew {wo wx : World} {rb : Nat} {sg : Seg} {p : Int} (h : RecAt wo wx rb sg p) : RecAt wo wx.drew rb sg p := by
  obtain ⟨r, sv, hb, hs, h1, h2, h3, h4, h5, h6⟩ := h
  exact ⟨r, sv, hb, hs.move (fun b hb _ => ⟨hb, rfl⟩), h1, h2, h3, h4, h5, h6.drew⟩
theorem RecAt.set5 {wo wx : World} {rb : Nat} {sg : Seg} {p : Int} (h : RecAt wo wx rb sg p) (x : Int) : RecAt wo (wx.setCell ⟨rb, 5, none⟩ (.int .i64 x)) rb sg p := by
  obtain ⟨r, sv, hb, hs, h1, h2, h3, h4, h5, h6⟩ := h
  have hc : Ch (fun b => b = rb) wx (wx.setCell ⟨rb, 5, none⟩ (.int .i64 x)) := (Ch.refl _ _).setCell _ _ (fun _ => rfl)
  exact ⟨⟨r.name, r.parent, r.segs, r.comp, r.keep, ⟨x, r.rule.flag, r.rule.to⟩⟩, sv, hb.set 5 (.int .i64 x), hs.ch hc (fun b hb e => hb.2 e), h1, h2, h3, h4, h5, h6.trans (hc.below h6.size (fun b hb e => by omega))⟩
theorem RecAt.set6 {wo wx : World} {rb : Nat} {sg : Seg} {p : Int} (h : RecAt wo wx rb sg p) (x : Int) : RecAt wo (wx.setCell ⟨rb, 6, none⟩ (.int .i64 x)) rb sg p := by
  obtain ⟨r, sv, hb, hs, h1, h2, h3, h4, h5, h6⟩ := h
  have hc : Ch (fun b => b = rb) wx (wx.setCell ⟨rb, 6, none⟩ (.int .i64 x)) := (Ch.refl _ _).setCell _ _ (fun _ => rfl)
  exact ⟨⟨r.name, r.parent, r.segs, r.comp, r.keep, ⟨r.rule.kind, x, r.rule.to⟩⟩, sv, hb.set 6 (.int .i64 x), hs.ch hc (fun b hb e => hb.2 e), h1, h2, h3, h4, h5, h6.trans (hc.below h6.size (fun b hb e => by omega))⟩
theorem RecAt.set7 {wo wx : World} {rb : Nat} {sg : Seg} {p : Int} (h : RecAt wo wx rb sg p) (x : ByteArray) (hx : x.size ≤ 4) : RecAt wo (wx.setCell ⟨rb, 7, none⟩ (.string x)) rb sg p := by
  obtain ⟨r, sv, hb, hs, h1, h2, h3, h4, h5, h6⟩ := h
  have hc : Ch (fun b => b = rb) wx (wx.setCell ⟨rb, 7, none⟩ (.string x)) := (Ch.refl _ _).setCell _ _ (fun _ => rfl)
  exact ⟨⟨r.name, r.parent, r.segs, r.comp, r.keep, ⟨r.rule.kind, r.rule.flag, x⟩⟩, sv, hb.set 7 (.string x), hs.ch hc (fun b hb e => hb.2 e), h1, h2, h3, hx, h5, h6.trans (hc.below h6.size (fun b hb e => by omega))⟩
theorem rec_made {wo wa : World} {sg : Seg} {p : Int} {nb : ByteArray} (hbw : Below wo.heap.size wo wa) (hs : sg.text.size ≤ 4) (hnb : nb.size = 1) (cm : Int) (kp : Bool) :
    RecAt wo ((wa.alloc (.cells #[.int .i64 sg.kind, .string sg.text] 59)).alloc (.cells #[.string (⟨#[114]⟩ ++ nb), .int .i64 p, .slice (some ⟨wa.heap.size, 0, none⟩) 1 1, .int .i64 cm, .bool kp, .int .i64 0, .int .i64 0, .string ⟨#[]⟩] 46)).drew (wa.heap.size + 1) sg p := by
  have a1 := below_alloc hbw (Nat.le_refl _) (.cells #[.int .i64 sg.kind, .string sg.text] 59)
  have hz : (wa.alloc (.cells #[.int .i64 sg.kind, .string sg.text] 59)).heap.size = wa.heap.size + 1 := by simp
  have hS := (Ow.lit1 eSeg 59 wa (fun _ => False) sg _ (eSeg_mk _ _ sg (by unfold maxLen; omega)) (fun b c => c.elim)).sl (B := fun b => b = wa.heap.size) (fun b c => c.elim) (fun g hg => by simp [Value.ownBlock] at hg; exact hg.symm)
  change Sl eSeg (wa.alloc (.cells #[.int .i64 sg.kind, .string sg.text] 59)) _ _ _ at hS
  have hzo := hbw.size
  generalize wa.alloc (.cells #[.int .i64 sg.kind, .string sg.text] 59) = w1 at *
  have hb := Blk.new w1 [.string (⟨#[114]⟩ ++ nb), .int .i64 p, .slice (some ⟨wa.heap.size, 0, none⟩) 1 1, .int .i64 cm, .bool kp, .int .i64 0, .int .i64 0, .string ⟨#[]⟩] 46
  rw [hz] at hb
  have a2 := below_alloc a1 (Nat.le_refl _) (.cells #[.string (⟨#[114]⟩ ++ nb), .int .i64 p, .slice (some ⟨wa.heap.size, 0, none⟩) 1 1, .int .i64 cm, .bool kp, .int .i64 0, .int .i64 0, .string ⟨#[]⟩] 46)
  have b2 := below_alloc (Below.refl w1.heap.size w1) (Nat.le_refl _) (.cells #[.string (⟨#[114]⟩ ++ nb), .int .i64 p, .slice (some ⟨wa.heap.size, 0, none⟩) 1 1, .int .i64 cm, .bool kp, .int .i64 0, .int .i64 0, .string ⟨#[]⟩] 46)
  refine RecAt.drew ⟨⟨⟨#[114]⟩ ++ nb, p, [sg], cm, kp, ⟨0, 0, ⟨#[]⟩⟩⟩, _, hb, (hS.below b2).mono (fun b hb => by omega), rfl, rfl, ?_, (by decide : (⟨#[]⟩ : ByteArray).size ≤ 4), by omega, a2⟩
  simp only [ByteArray.size_append]
  rw [hnb]
  decide
theorem rec_made2 {wo wa : World} {sg : Seg} {p : Int} {nb : ByteArray} (hbw : Below wo.heap.size wo wa) (hs : sg.text.size ≤ 4) (hnb : nb.size = 1) (cm : Int) (kp : Bool) :
    RecAt wo ((wa.alloc (.cells #[.string (⟨#[114]⟩ ++ nb), .int .i64 p, .slice (some ⟨wa.heap.size + 1, 0, none⟩) 1 1, .int .i64 cm, .bool kp, .int .i64 0, .int .i64 0, .string ⟨#[]⟩] 46)).alloc (.cells #[.int .i64 sg.kind, .string sg.text] 59)).drew wa.heap.size sg p := by
  have a1 := below_alloc hbw (Nat.le_refl _) (.cells #[.string (⟨#[114]⟩ ++ nb), .int .i64 p, .slice (some ⟨wa.heap.size + 1, 0, none⟩) 1 1, .int .i64 cm, .bool kp, .int .i64 0, .int .i64 0, .string ⟨#[]⟩] 46)
  have hz : (wa.alloc (.cells #[.string (⟨#[114]⟩ ++ nb), .int .i64 p, .slice (some ⟨wa.heap.size + 1, 0, none⟩) 1 1, .int .i64 cm, .bool kp, .int .i64 0, .int .i64 0, .string ⟨#[]⟩] 46)).heap.size = wa.heap.size + 1 := by simp
  have hb := Blk.new wa [.string (⟨#[114]⟩ ++ nb), .int .i64 p, .slice (some ⟨wa.heap.size + 1, 0, none⟩) 1 1, .int .i64 cm, .bool kp, .int .i64 0, .int .i64 0, .string ⟨#[]⟩] 46
  change Blk (wa.alloc (.cells #[.string (⟨#[114]⟩ ++ nb), .int .i64 p, .slice (some ⟨wa.heap.size + 1, 0, none⟩) 1 1, .int .i64 cm, .bool kp, .int .i64 0, .int .i64 0, .string ⟨#[]⟩] 46)) _ _ _ at hb
  have hzo := hbw.size
  generalize wa.alloc (.cells #[.string (⟨#[114]⟩ ++ nb), .int .i64 p, .slice (some ⟨wa.heap.size + 1, 0, none⟩) 1 1, .int .i64 cm, .bool kp, .int .i64 0, .int .i64 0, .string ⟨#[]⟩] 46) = w1 at *
  have hS := (Ow.lit1 eSeg 59 w1 (fun _ => False) sg _ (eSeg_mk _ _ sg (by unfold maxLen; omega)) (fun b c => c.elim)).sl (B := fun b => b = w1.heap.size) (fun b c => c.elim) (fun g hg => by simp [Value.ownBlock] at hg; exact hg.symm)
  rw [hz] at hS
  have a2 := below_alloc a1 (Nat.le_refl _) (.cells #[.int .i64 sg.kind, .string sg.text] 59)
  refine RecAt.drew ⟨⟨⟨#[114]⟩ ++ nb, p, [sg], cm, kp, ⟨0, 0, ⟨#[]⟩⟩⟩, _, hb.alloc _, hS.mono (fun b hb => by omega), rfl, rfl, ?_, (by decide : (⟨#[]⟩ : ByteArray).size ≤ 4), hzo, a2⟩
  simp only [ByteArray.size_append]
  rw [hnb]
  decide
theorem rec_set3 {w : World} {a i j rb : Nat} {x y : Value} (h : w.cell? ⟨a, i, none⟩ = some x ∧ w.cell? ⟨a, j, none⟩ = some y) (hn : a ≠ rb) (u v z : Value) : (((w.setCell ⟨rb, 5, none⟩ u).setCell ⟨rb, 6, none⟩ v).setCell ⟨rb, 7, none⟩ z).drew.cell? ⟨a, i, none⟩ = some x ∧ (((w.setCell ⟨rb, 5, none⟩ u).setCell ⟨rb, 6, none⟩ v).setCell ⟨rb, 7, none⟩ z).drew.cell? ⟨a, j, none⟩ = some y := by
  have hc : Ch (fun b => b = rb) w (((w.setCell ⟨rb, 5, none⟩ u).setCell ⟨rb, 6, none⟩ v).setCell ⟨rb, 7, none⟩ z) := (((Ch.refl (fun b => b = rb) w).setCell ⟨rb, 5, none⟩ u (fun _ => rfl)).setCell ⟨rb, 6, none⟩ v (fun _ => rfl)).setCell ⟨rb, 7, none⟩ z (fun _ => rfl)
  exact ⟨hc.cell h.1 hn, hc.cell h.2 hn⟩
theorem rec_own {wo wa : World} {base : Nat} {ov dv : Value} {rs : List Record} (h : Ow eRecord 46 wo (fun b => base ≤ b ∧ ov.ownBlock ≠ some b ∧ dv.ownBlock ≠ some b) ov rs) (hb : Below wo.heap.size wo wa) (o : Obj) :
    Ow eRecord 46 (wa.alloc o) (fun b => (base ≤ b ∧ ov.ownBlock ≠ some b ∧ dv.ownBlock ≠ some b) ∧ b < wa.heap.size) ov rs := by
  have hb2 := below_alloc hb (Nat.le_refl _) o
  exact h.move (fun b hb3 hl => ⟨⟨hb3, Nat.lt_of_lt_of_le hl hb.size⟩, hb2.block b hl⟩) (fun g hg => ⟨fun c => c.1.2.1 hg, hb2.block g (h.lt g hg)⟩)
theorem rec_src {wo wa : World} {base rb : Nat} {ov dv : Value} {rs : List Record} {ds : List Int} {sg : Seg} {r : Record} {As : Option Addr} {cs : Nat} (h : Ow eRecord 46 wo (fun b => base ≤ b ∧ ov.ownBlock ≠ some b ∧ dv.ownBlock ≠ some b) ov rs) (hd : Ow (eInt .i64) 3 wo (fun _ => False) dv ds) (hb : Below wo.heap.size wo wa) (hz : base ≤ wo.heap.size)
    (hs : Sl eSeg wa (fun b => wo.heap.size ≤ b ∧ b ≠ rb) (.slice As 1 cs) [sg]) (hsg : r.segs = [sg]) (hn : r.name.size ≤ 4) (ht : r.rule.to.size ≤ 4) :
    SlP eRecord.sz (wa.alloc (.cells #[.string r.name, .int .i64 r.parent, .slice As 1 cs, .int .i64 r.comp, .bool r.keep, .int .i64 r.rule.kind, .int .i64 r.rule.flag, .string r.rule.to] 46)) (fun _ => True) (.slice (some ⟨wa.heap.size, 0, none⟩) 1 1) [r].length
      (fun i h c => eRecord.R (wa.alloc (.cells #[.string r.name, .int .i64 r.parent, .slice As 1 cs, .int .i64 r.comp, .bool r.keep, .int .i64 r.rule.kind, .int .i64 r.rule.flag, .string r.rule.to] 46)) (fun b => (base ≤ b ∧ ov.ownBlock ≠ some b ∧ dv.ownBlock ≠ some b) ∧ b < wa.heap.size) [r][i] c) := by
  refine one_new eRecord wa _ r [.string r.name, .int .i64 r.parent, .slice As 1 cs, .int .i64 r.comp, .bool r.keep, .int .i64 r.rule.kind, .int .i64 r.rule.flag, .string r.rule.to] 46 (eRecord_mk ?_ (by unfold maxLen; omega) (by unfold maxLen; omega)) (fun b h => h.2)
  rw [hsg]
  exact hs.move (fun b h1 hl => ⟨⟨⟨by omega, fun e => by have := h.lt b e; omega, fun e => by have := hd.lt b e; omega⟩, hl⟩, rfl⟩)
theorem Made.snoc {rs : List Record} {r : Record} {sg : Seg} (h : Made rs) (hl : rs.length ≤ 7) (h1 : -1 ≤ r.parent) (h2 : r.parent < rs.length) (hs : r.segs = [sg]) (hm : SegMade sg) (hn : r.name.size ≤ 4) (ht : r.rule.to.size ≤ 4) : Made (rs ++ [r]) := by
  have key : ∀ {Q : Nat → Record → Prop}, (∀ i (hi : i < rs.length), Q i rs[i]) → Q rs.length r → ∀ i (hi : i < (rs ++ [r]).length), Q i (rs ++ [r])[i] := by
    intro Q ha hb i hi
    by_cases hlt : i < rs.length
    · rw [List.getElem_append_left hlt]; exact ha i hlt
    · obtain rfl : i = rs.length := by simp at hi; omega
      simpa using hb
  refine ⟨by simp, by simp; omega, key (Q := fun i x => -1 ≤ x.parent ∧ x.parent < i) h.par ⟨h1, h2⟩, key (Q := fun i x => x.segs.length ≤ 1) h.segs (by rw [hs]; simp), fun h0 => ?_, key (Q := fun i x => ∀ s ∈ x.segs, SegMade s) h.made (by rw [hs]; intro s hs'; simp at hs'; rw [hs']; exact hm), key (Q := fun i x => x.name.size ≤ 4) h.name hn, key (Q := fun i x => x.rule.to.size ≤ 4) h.toS ht⟩
  rw [List.getElem_append_left h.pos]
  exact h.first h.pos
theorem rec_next {w' w2 : World} {o2 : Obj} {base n1 : Nat} {ov dv v' v2 : Value} {xs : List Record} (h : Ow eRecord 46 w' (fun b => ((base ≤ b ∧ ov.ownBlock ≠ some b ∧ dv.ownBlock ≠ some b) ∧ b < n1) ∧ b < n1 + 1) v' xs) (hv : v'.ownBlock = ov.ownBlock ∨ ∀ g, v'.ownBlock = some g → n1 + 1 ≤ g) (hz : n1 + 1 ≤ w'.heap.size)
    (hg : (w'.alloc o2).grownBy w2 dv.ownBlock) (hv2 : v2.ownBlock = dv.ownBlock ∨ ∀ g, v2.ownBlock = some g → w'.heap.size + 1 ≤ g) (hG : (∀ g, ov.ownBlock = some g → base ≤ g) ∧ (∀ g, dv.ownBlock = some g → base ≤ g) ∧ ∀ g, ov.ownBlock = some g → dv.ownBlock ≠ some g) (hd : ∀ g, dv.ownBlock = some g → g < n1) (hb : base ≤ n1) :
    Ow eRecord 46 w2 (fun b => base ≤ b ∧ v'.ownBlock ≠ some b ∧ v2.ownBlock ≠ some b) v' xs ∧ (∀ g, v'.ownBlock = some g → base ≤ g) ∧ (∀ g, v2.ownBlock = some g → base ≤ g) ∧ ∀ g, v'.ownBlock = some g → v2.ownBlock ≠ some g := by
  have hne : ∀ g, v'.ownBlock = some g → dv.ownBlock ≠ some g := by
    intro g h1 h2
    rcases hv with e | e
    · exact hG.2.2 g (e ▸ h1) h2
    · have := e g h1
      have := hd g h2
      omega
  have hlt := h.lt
  have hne2 : ∀ g, v'.ownBlock = some g → v2.ownBlock ≠ some g := by
    intro g h1 h2
    rcases hv2 with e | e
    · exact hne g h1 (e ▸ h2)
    · have := e g h2
      have := hlt g h1
      omega
  have hs : (w'.alloc o2).heap.size = w'.heap.size + 1 := by simp
  have hblk : ∀ b, b < w'.heap.size → dv.ownBlock ≠ some b → w2.heap[b]? = w'.heap[b]? := fun b hb hn => (hg.block b (by omega) (fun e => hn e.symm)).trans (heap_alloc_old w' o2 hb)
  refine ⟨h.move (fun b hb3 hl => ⟨⟨hb3.1.1.1, fun e => ?_, fun e => ?_⟩, hblk b hl hb3.1.1.2.2⟩) (fun g hg3 => ⟨fun c => c.2.1 hg3, hblk g (hlt g hg3) (hne g hg3)⟩), ?_, ?_, hne2⟩
  · rcases hv with e2 | e2
    · exact hb3.1.1.2.1 (e2 ▸ e)
    · have := e2 b e
      have := hb3.1.2
      omega
  · rcases hv2 with e2 | e2
    · exact hb3.1.1.2.2 (e2 ▸ e)
    · have := e2 b e
      omega
  · intro g h1
    rcases hv with e | e
    · exact hG.1 g (e ▸ h1)
    · have := e g h1
      omega
  · intro g h1
    rcases hv2 with e | e
    · exact hG.2.1 g (e ▸ h1)
    · have := e g h1
      omega
def home : Record := ⟨⟨#[104, 111, 109, 101]⟩, -1, [], 0, false, ⟨0, 0, ⟨#[]⟩⟩⟩
theorem home_made : Made [home] := by
  refine ⟨by simp, by simp, ?_, ?_, fun _ => rfl, ?_, ?_, ?_⟩ <;> intro i h <;> obtain rfl : i = 0 := by simp at h; omega
  · exact ⟨(by decide : -1 ≤ home.parent), (by decide : home.parent < ((0 : Nat) : Int))⟩
  · exact (by decide : home.segs.length ≤ 1)
  · intro s hs; simp [home] at hs
  · exact (by decide : home.name.size ≤ 4)
  · exact (by decide : home.rule.to.size ≤ 4)
/-- What Records makes first. -/
theorem rec_start (w : World) (v0 v1 v2 v3 v4 v5 v6 : Value) : Below w.heap.size w ((((w.alloc (.cells #[v0, v1, v2, v3, v4, v5, v6] 24)).alloc (.cells #[.string ⟨#[97]⟩, .string ⟨#[98]⟩, .string ⟨#[105, 116, 101, 109]⟩, .string ⟨#[122]⟩, .string ⟨#[49]⟩, .string ⟨#[108, 105, 115, 116]⟩] 9)).alloc (.cells #[.string ⟨#[104, 111, 109, 101]⟩, .int .i64 (-1), .slice none 0 0, .int .i64 0, .bool false, .int .i64 0, .int .i64 0, .string ⟨#[]⟩] 46)).alloc (.cells #[.int .i64 0] 3)) ∧ ((((w.alloc (.cells #[v0, v1, v2, v3, v4, v5, v6] 24)).alloc (.cells #[.string ⟨#[97]⟩, .string ⟨#[98]⟩, .string ⟨#[105, 116, 101, 109]⟩, .string ⟨#[122]⟩, .string ⟨#[49]⟩, .string ⟨#[108, 105, 115, 116]⟩] 9)).alloc (.cells #[.string ⟨#[104, 111, 109, 101]⟩, .int .i64 (-1), .slice none 0 0, .int .i64 0, .bool false, .int .i64 0, .int .i64 0, .string ⟨#[]⟩] 46)).alloc (.cells #[.int .i64 0] 3)).heap.size = w.heap.size + 1 + 1 + 1 + 1 ∧
    Blk ((((w.alloc (.cells #[v0, v1, v2, v3, v4, v5, v6] 24)).alloc (.cells #[.string ⟨#[97]⟩, .string ⟨#[98]⟩, .string ⟨#[105, 116, 101, 109]⟩, .string ⟨#[122]⟩, .string ⟨#[49]⟩, .string ⟨#[108, 105, 115, 116]⟩] 9)).alloc (.cells #[.string ⟨#[104, 111, 109, 101]⟩, .int .i64 (-1), .slice none 0 0, .int .i64 0, .bool false, .int .i64 0, .int .i64 0, .string ⟨#[]⟩] 46)).alloc (.cells #[.int .i64 0] 3)) w.heap.size [v0, v1, v2, v3, v4, v5, v6] 24 ∧
    Sl eStr ((((w.alloc (.cells #[v0, v1, v2, v3, v4, v5, v6] 24)).alloc (.cells #[.string ⟨#[97]⟩, .string ⟨#[98]⟩, .string ⟨#[105, 116, 101, 109]⟩, .string ⟨#[122]⟩, .string ⟨#[49]⟩, .string ⟨#[108, 105, 115, 116]⟩] 9)).alloc (.cells #[.string ⟨#[104, 111, 109, 101]⟩, .int .i64 (-1), .slice none 0 0, .int .i64 0, .bool false, .int .i64 0, .int .i64 0, .string ⟨#[]⟩] 46)).alloc (.cells #[.int .i64 0] 3)) (fun b => b = w.heap.size + 1) (.slice (some ⟨w.heap.size + 1, 0, none⟩) 6 6) tabTexts ∧
    Ow eRecord 46 ((((w.alloc (.cells #[v0, v1, v2, v3, v4, v5, v6] 24)).alloc (.cells #[.string ⟨#[97]⟩, .string ⟨#[98]⟩, .string ⟨#[105, 116, 101, 109]⟩, .string ⟨#[122]⟩, .string ⟨#[49]⟩, .string ⟨#[108, 105, 115, 116]⟩] 9)).alloc (.cells #[.string ⟨#[104, 111, 109, 101]⟩, .int .i64 (-1), .slice none 0 0, .int .i64 0, .bool false, .int .i64 0, .int .i64 0, .string ⟨#[]⟩] 46)).alloc (.cells #[.int .i64 0] 3)) (fun _ => False) (.slice (some ⟨w.heap.size + 1 + 1, 0, none⟩) 1 1) [home] ∧
    Ow (eInt .i64) 3 ((((w.alloc (.cells #[v0, v1, v2, v3, v4, v5, v6] 24)).alloc (.cells #[.string ⟨#[97]⟩, .string ⟨#[98]⟩, .string ⟨#[105, 116, 101, 109]⟩, .string ⟨#[122]⟩, .string ⟨#[49]⟩, .string ⟨#[108, 105, 115, 116]⟩] 9)).alloc (.cells #[.string ⟨#[104, 111, 109, 101]⟩, .int .i64 (-1), .slice none 0 0, .int .i64 0, .bool false, .int .i64 0, .int .i64 0, .string ⟨#[]⟩] 46)).alloc (.cells #[.int .i64 0] 3)) (fun _ => False) (.slice (some ⟨w.heap.size + 1 + 1 + 1, 0, none⟩) 1 1) [0] := by
  have a1 := below_alloc (Below.refl w.heap.size w) (Nat.le_refl _) (.cells #[v0, v1, v2, v3, v4, v5, v6] 24)
  have a2 := below_alloc a1 (Nat.le_refl _) (.cells #[.string ⟨#[97]⟩, .string ⟨#[98]⟩, .string ⟨#[105, 116, 101, 109]⟩, .string ⟨#[122]⟩, .string ⟨#[49]⟩, .string ⟨#[108, 105, 115, 116]⟩] 9)
  have a3 := below_alloc a2 (Nat.le_refl _) (.cells #[.string ⟨#[104, 111, 109, 101]⟩, .int .i64 (-1), .slice none 0 0, .int .i64 0, .bool false, .int .i64 0, .int .i64 0, .string ⟨#[]⟩] 46)
  have a4 := below_alloc a3 (Nat.le_refl _) (.cells #[.int .i64 0] 3)
  have z1 : (w.alloc (.cells #[v0, v1, v2, v3, v4, v5, v6] 24)).heap.size = w.heap.size + 1 := by simp
  have hT := Ow.litS 9 (w.alloc (.cells #[v0, v1, v2, v3, v4, v5, v6] 24)) tabTexts (by decide) (by unfold maxLen; decide) 6 rfl _ rfl
  have hTs := hT.sl (B := fun b => b = w.heap.size + 1) (fun b c => c.elim) (fun g hg => by rw [z1] at hg; simp [Value.ownBlock] at hg; exact hg.symm)
  rw [z1] at hTs
  have hB := Blk.new w [v0, v1, v2, v3, v4, v5, v6] 24
  generalize w.alloc (.cells #[v0, v1, v2, v3, v4, v5, v6] 24) = w1 at *
  change Sl eStr (w1.alloc (.cells #[.string ⟨#[97]⟩, .string ⟨#[98]⟩, .string ⟨#[105, 116, 101, 109]⟩, .string ⟨#[122]⟩, .string ⟨#[49]⟩, .string ⟨#[108, 105, 115, 116]⟩] 9)) _ _ _ at hTs
  have hB2 := hB.alloc (.cells #[.string ⟨#[97]⟩, .string ⟨#[98]⟩, .string ⟨#[105, 116, 101, 109]⟩, .string ⟨#[122]⟩, .string ⟨#[49]⟩, .string ⟨#[108, 105, 115, 116]⟩] 9)
  have z2 : (w1.alloc (.cells #[.string ⟨#[97]⟩, .string ⟨#[98]⟩, .string ⟨#[105, 116, 101, 109]⟩, .string ⟨#[122]⟩, .string ⟨#[49]⟩, .string ⟨#[108, 105, 115, 116]⟩] 9)).heap.size = w.heap.size + 1 + 1 := by simp [z1]
  generalize w1.alloc (.cells #[.string ⟨#[97]⟩, .string ⟨#[98]⟩, .string ⟨#[105, 116, 101, 109]⟩, .string ⟨#[122]⟩, .string ⟨#[49]⟩, .string ⟨#[108, 105, 115, 116]⟩] 9) = w2 at *
  have b3 := below_alloc (Below.refl w2.heap.size w2) (Nat.le_refl _) (.cells #[.string ⟨#[104, 111, 109, 101]⟩, .int .i64 (-1), .slice none 0 0, .int .i64 0, .bool false, .int .i64 0, .int .i64 0, .string ⟨#[]⟩] 46)
  have hO := Ow.lit1 eRecord 46 w2 (fun _ => False) home _ (eRecord_mk (v := .slice none 0 0) (Sl.nil eSeg w2 _) (by unfold maxLen; decide) (by unfold maxLen; decide)) (fun b c => c.elim)
  change Ow eRecord _ (w2.alloc (.cells #[.string ⟨#[104, 111, 109, 101]⟩, .int .i64 (-1), .slice none 0 0, .int .i64 0, .bool false, .int .i64 0, .int .i64 0, .string ⟨#[]⟩] 46)) _ _ _ at hO
  rw [z2] at hO
  have z3 : (w2.alloc (.cells #[.string ⟨#[104, 111, 109, 101]⟩, .int .i64 (-1), .slice none 0 0, .int .i64 0, .bool false, .int .i64 0, .int .i64 0, .string ⟨#[]⟩] 46)).heap.size = w.heap.size + 1 + 1 + 1 := by simp [z2]
  generalize w2.alloc (.cells #[.string ⟨#[104, 111, 109, 101]⟩, .int .i64 (-1), .slice none 0 0, .int .i64 0, .bool false, .int .i64 0, .int .i64 0, .string ⟨#[]⟩] 46) = w3 at *
  have b4 := below_alloc (Below.refl w3.heap.size w3) (Nat.le_refl _) (.cells #[.int .i64 0] 3)
  have hD := Ow.lit1 (eInt .i64) 3 w3 (fun _ => False) 0 _ rfl (fun b c => c.elim)
  rw [z3] at hD
  exact ⟨a4, by simp [z3], (hB2.below b3 hB2.lt).below b4 (Nat.lt_of_lt_of_le hB2.lt b3.size), ((hTs.below b3).below b4), (hO.below b4).plain (fun _ c => c.1), hD⟩

end Go.Proofs.YtejbkjndipineaaGreatDoor
