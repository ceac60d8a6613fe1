/- TravelArrives, for every input: the law's row, and its tied card. -/
import Derived.Test.YtejbkjndipineaaGreatDoorArr
import Derived.Test.YtejbkjndipineaaGreatDoorCards
import Derived.Test.YtejbkjndipineaaGreatDoorTie
import Derived.ProofKit
import Derived.OpenShut
import Derived.OpenVars
import Derived.LaidMore
import Derived.Lay
import Derived.SevenTiedAt
import Derived.Stop.Joined
import Derived.Deep.Grids
import Derived.Deep.Fields
import Derived.Shelf.Vars
import Derived.HandedShaped
namespace Go.Proofs.YtejbkjndipineaaGreatDoor
open Go Go.ChangeShapes Go.WideShapes Go.ChangeAt Go.RowKit PR
set_option linter.unusedVariables false

theorem ownK : ownKnob Tryz.prog.godebug = none := by kernel_rfl

theorem sl_ints {H : Type} {enc : TypeId × Value → H} {w : World} {base fuel : Nat} {held : Bool} {a : Option Addr} {len cap : Nat} {x : DataW H × List MemPlace} (h : DataW.trod enc Tryz.prog w base (fun _ => true) held fuel 22 [.slice a len cap] = some x) : ∃ zs, Sl (eInt .i64) w (fun b => b < w.heap.size) (.slice a len cap) zs := by
  rcases open_ints Tryz.underlying22 Tryz.underlying3 (by kernel_rfl) h with ⟨hcs, _⟩ | ⟨y, l, c, zs, hcs, _, hl, hm, hz, _, hcell, _⟩
  · simp at hcs
    obtain ⟨rfl, rfl, rfl⟩ := hcs
    exact ⟨[], Sl.nil _ _ _⟩
  · simp at hcs
    obtain ⟨rfl, rfl, rfl⟩ := hcs
    have hzl : zs.length = cap := by simpa using hz
    have htl : (zs.take len).length = len := by rw [List.length_take]; omega
    refine ⟨zs.take len, some y, cap, by rw [htl], by omega, hm, fun hn => ?_⟩
    have h0 := hcell 0 (by omega)
    have hsp := World.cell?_spot h0
    obtain ⟨yb, yo, ys⟩ := y
    have hs : ys = none := by
      unfold Addr.add at hsp
      split at hsp <;> simp_all
    subst hs
    have ea : ∀ i, (⟨yb, yo, none⟩ : Addr).add i = ⟨yb, yo + i, none⟩ := fun i => by unfold Addr.add; split <;> simp_all
    rw [ea] at h0
    refine ⟨yb, yo, rfl, World.block_lt_of_cell? w _ h0, World.block_lt_of_cell? w _ h0, fun i hi => ⟨[.int .i64 (zs.take len)[i]], rfl, fun j u hj => ?_⟩⟩
    cases j with
    | zero =>
      simp only [List.getElem?_cons_zero, Option.some.injEq] at hj
      subst hj
      have hi2 : i < zs.length := by omega
      have := hcell i hi2
      rw [ea] at this
      have e1 : (⟨yb, yo + i * (eInt .i64).sz + 0, none⟩ : Addr) = ⟨yb, yo + i, none⟩ := by simp [eInt]
      rw [e1, this, List.getElem_take, List.getD, List.getElem?_eq_getElem hi2]
      rfl
    | succ j => simp at hj
theorem sl_bools {H : Type} {enc : TypeId × Value → H} {w : World} {base fuel : Nat} {held : Bool} {a : Option Addr} {len cap : Nat} {x : DataW H × List MemPlace} (h : DataW.trod enc Tryz.prog w base (fun _ => true) held fuel 25 [.slice a len cap] = some x) : ∃ zs, Sl eBool w (fun b => b < w.heap.size) (.slice a len cap) zs := by
  rcases Go.Deep.open_bools Tryz.underlying25 Tryz.underlying4 (by kernel_rfl) h with ⟨hcs, _⟩ | ⟨y, l, c, B, hcs, _, hl, hm, _, hcell⟩
  · simp at hcs
    obtain ⟨rfl, rfl, rfl⟩ := hcs
    exact ⟨[], Sl.nil _ _ _⟩
  · simp at hcs
    obtain ⟨rfl, rfl, rfl⟩ := hcs
    have htl : ((List.range len).map B).length = len := by simp
    refine ⟨(List.range len).map B, some y, cap, by rw [htl], by rw [htl]; exact hl, hm, fun hn => ?_⟩
    rw [htl] at hn
    have h0 := hcell 0 (by omega)
    have hsp := World.cell?_spot h0
    obtain ⟨yb, yo, ys⟩ := y
    have hs : ys = none := by
      unfold Addr.add at hsp
      split at hsp <;> simp_all
    subst hs
    have ea : ∀ i, (⟨yb, yo, none⟩ : Addr).add i = ⟨yb, yo + i, none⟩ := fun i => by unfold Addr.add; split <;> simp_all
    rw [ea] at h0
    refine ⟨yb, yo, rfl, World.block_lt_of_cell? w _ h0, World.block_lt_of_cell? w _ h0, fun i hi => ⟨[.bool ((List.range len).map B)[i]], rfl, fun j u hj => ?_⟩⟩
    rw [htl] at hi
    cases j with
    | zero =>
      simp only [List.getElem?_cons_zero, Option.some.injEq] at hj
      subst hj
      have := hcell i (by omega)
      rw [ea] at this
      have e1 : (⟨yb, yo + i * eBool.sz + 0, none⟩ : Addr) = ⟨yb, yo + i, none⟩ := by simp [eBool]
      rw [e1, this]
      simp
    | succ j => simp at hj

theorem array7 {α : Type} {cs : Array α} (h : cs.size = 7) : ∃ c0 c1 c2 c3 c4 c5 c6, cs = #[c0, c1, c2, c3, c4, c5, c6] := by
  obtain ⟨l⟩ := cs
  match l, h with
  | [c0, c1, c2, c3, c4, c5, c6], _ => exact ⟨c0, c1, c2, c3, c4, c5, c6, rfl⟩
set_option maxRecDepth 100000 in
theorem tab_fields {H : Type} {enc : TypeId × Value → H} {w : World} {base : Nat} {held : Bool} {cs : Array Value} {fuel : Nat} {x : DataW H × List MemPlace} (hsz : cs.size = 7) (h : DataW.trod enc Tryz.prog w base (fun _ => true) held fuel 24 cs.toList = some x) :
    ∃ c0 c1 c2 c3 c4 c5 c6, cs = #[c0, c1, c2, c3, c4, c5, c6] ∧ ∀ c ∈ [c0, c1, c2, c3, c4, c5, c6], ∃ a len cap zs, c = .slice a len cap ∧ Sl (eInt .i64) w (fun b => b < w.heap.size) c zs := by
  obtain ⟨c0, c1, c2, c3, c4, c5, c6, rfl⟩ := array7 hsz
  refine ⟨c0, c1, c2, c3, c4, c5, c6, rfl, ?_⟩
  obtain ⟨xs, n, -, -, -, hlen, hf⟩ := DataW.trod_struct Tryz.underlying24 h
  have cell1 : Tryz.prog.cellsOf 22 = 1 := by kernel_rfl
  have key : ∀ c : Value, (∃ y, DataW.trod enc Tryz.prog w base (fun _ => true) held n 22 [c] = some y) → ∃ a len cap zs, c = .slice a len cap ∧ Sl (eInt .i64) w (fun b => b < w.heap.size) c zs := by
    rintro c ⟨y, hy⟩
    have hform : ∃ a len cap, c = .slice a len cap := by
      rcases open_ints Tryz.underlying22 Tryz.underlying3 (by kernel_rfl) hy with ⟨hcs, _⟩ | ⟨y, l, c, zs, hcs, _⟩
      · exact ⟨_, _, _, by simpa using hcs⟩
      · exact ⟨_, _, _, by simpa using hcs⟩
    obtain ⟨a, len, cap, rfl⟩ := hform
    obtain ⟨zs, hz⟩ := sl_ints hy
    exact ⟨a, len, cap, zs, rfl, hz⟩
  have fld : ∀ i (hi : i < 7) (f : Field) (c : Value), (#[c0, c1, c2, c3, c4, c5, c6] : Array Value)[i]? = some c → (match Tryz.prog.underlying 24 with | some (.struct fs) => fs[i]? | _ => none) = some f → f.offset = i → f.type = 22 → ∃ y, DataW.trod enc Tryz.prog w base (fun _ => true) held n 22 [c] = some y := by
    intro i hi f c hc hfi ho hty
    rw [Tryz.underlying24] at hfi
    have h2 := hf i f hfi
    rw [ho, hty, cell1] at h2
    have hxi : i < xs.length := by rw [hlen]; exact hi
    rw [List.getElem?_eq_getElem hxi] at h2
    refine ⟨xs[i], ?_⟩
    rw [← h2]
    congr 1
    have : (#[c0, c1, c2, c3, c4, c5, c6] : Array Value).toList[i]? = some c := by simpa using hc
    rw [List.drop_eq_getElem_cons (by simpa using hi)]
    simp only [List.take_succ_cons, List.take_zero, List.cons.injEq, and_true]
    rw [List.getElem?_eq_getElem (by simpa using hi)] at this
    exact (Option.some.inj this).symm
  intro c hc
  simp only [List.mem_cons, List.mem_nil_iff, or_false] at hc
  rcases hc with rfl | rfl | rfl | rfl | rfl | rfl | rfl
  · exact key _ (fld 0 (by omega) _ _ rfl (by rw [Tryz.underlying24]; rfl) rfl rfl)
  · exact key _ (fld 1 (by omega) _ _ rfl (by rw [Tryz.underlying24]; rfl) rfl rfl)
  · exact key _ (fld 2 (by omega) _ _ rfl (by rw [Tryz.underlying24]; rfl) rfl rfl)
  · exact key _ (fld 3 (by omega) _ _ rfl (by rw [Tryz.underlying24]; rfl) rfl rfl)
  · exact key _ (fld 4 (by omega) _ _ rfl (by rw [Tryz.underlying24]; rfl) rfl rfl)
  · exact key _ (fld 5 (by omega) _ _ rfl (by rw [Tryz.underlying24]; rfl) rfl rfl)
  · exact key _ (fld 6 (by omega) _ _ rfl (by rw [Tryz.underlying24]; rfl) rfl rfl)

theorem returns_and_shaped {H : Type} {enc : TypeId × Value → H} {a : Assume} {C : Checked} {os : Os} {f : FuncId} {fn : Func} {s : ChangeSpec} {conds : List PathCond} {apart fresh handsOn again : Bool} {X : World → Array Value → Prop}
    (hX : ∀ (w w' : World) (args : Array Value), w.heap = w'.heap → X w args → X w' args)
    (own : ownKnob C.prog.godebug = none) (started : os.Started) (noInit : C.prog.inits.idxOf? f = none) (hfn : C.prog.funcs[f]? = some fn)
    (witness : ∃ (w : World) (tape : Tape) (i : Input), w.os = os ∧ (w.forCall tape i).Shaped C.prog ∧ i.vars = [] ∧ Input.okWide C.prog (w.forCall tape i) .any w.heap.size f i ∧
      ((s.pre enc C.prog fn conds apart (w.forCall tape i).memory i.args ∧ X (w.forCall tape i).memory i.args) ∧ sizedMet enc C.prog fn (OpenSpec.ofChange s) apart (w.forCall tape i).memory i.args) ∧ a.holds C.prog (lone (Frame.enter C.prog f i.args .normal) [] (w.forCall tape i)))
    (contract : ∀ (W : World) (base : Nat) (args : Array Value) (ds gs : List (DataW H)) (before : List MemPlace),
      (∀ (j : Nat) t v, fn.params[j]? = some t → args[j]? = some v → Value.okWide C.prog W .any base t v) →
      DataW.Whole enc C.prog fn.params.toList s.vars apart W args.toList ds gs before →
      conds.all (PathCond.test C.prog ⟨fn.params.toList, ds, s.plain.varTypes C.prog, gs⟩) = true →
      (DataW.weightsEach C.prog (fn.params.toList ++ s.plain.varTypes C.prog) (ds ++ gs)).all (· ≤ reachBytes) = true → X W args → W.ShapedOpen C.prog →
      a.holds C.prog (lone (Frame.enter C.prog f args .normal) [] W) →
      Calls C.prog f args W fun e W' => ∃ v, e = .returned v ∧ s.post enc C.prog fn apart fresh handsOn again W args v W') :
    ReturnsInHanded a C os f .any (fun w args => (s.pre enc C.prog fn conds apart w args ∧ X w args) ∧ sizedMet enc C.prog fn (OpenSpec.ofChange s) apart w args) (s.post enc C.prog fn apart fresh handsOn again) := by
  refine returnsInHanded_of_calls own started noInit witness ?_
  intro w tape i _ hsh _ hok hpre hholds
  obtain ⟨_, _, _, fn', hfn', _, _, _, _, hval⟩ := hok
  have e : fn' = fn := Option.some.inj (hfn'.symm.trans hfn)
  subst e
  obtain ⟨⟨⟨ds, gs, before, hw, hc⟩, hx⟩, hz⟩ := hpre
  have hw' := DataW.Whole.of_heap (w' := w.forCall tape i) (by rfl) hw
  refine (contract (w.forCall tape i) w.heap.size i.args ds gs before hval hw' hc (hz.weights hw) (hX _ _ _ (by rfl) hx) hsh hholds).mono fun e W' ⟨v, he, hp⟩ => ?_
  subst he
  exact ChangeSpec.post_blind hp

set_option maxRecDepth 100000 in
theorem lifted (os : Os) (started : os.Started) (H : Type) (enc : TypeId × Value → H) :
    ReturnsInHanded {} Tryz.checked os 3 .any (fun w args => (Rows.travelArrivesSpec.pre enc Tryz.prog Tryz.f3 Rows.travelArrivesRow.domain false w args ∧ laidMetH Tryz.prog Rows.travelArrivesRow.laid w) ∧ sizedMet enc Tryz.prog Tryz.f3 (OpenSpec.ofChange Rows.travelArrivesSpec) false w args)
      (Rows.travelArrivesSpec.post enc Tryz.prog Tryz.f3 false true false false) := by
  refine returns_and_shaped (C := Tryz.checked) (X := fun w _ => laidMetH Tryz.prog Rows.travelArrivesRow.laid w) (fun _ _ _ hh h => h.of_heap hh) ownK started (by kernel_rfl) Tryz.func3
    (ChangeSpec.witness_shaped (enc := enc) (C := Tryz.checked) (os := os) (X := fun w _ => laidMetH Tryz.prog Rows.travelArrivesRow.laid w) false (World.laidAll Tryz.prog os Rows.travelArrivesRow.laid) #[.agg #[.slice none 0 0, .slice none 0 0, .slice none 0 0, .slice none 0 0, .slice none 0 0, .slice none 0 0, .slice none 0 0], .int .i64 0, .slice none 0 0, .slice none 0 0] 8 (World.laidAll_os _ _ _)
      (World.shaped_of_ZipB (by kernel_rfl) (by kernel_rfl)) (by kernel_rfl) (by kernel_rfl) (by kernel_rfl)
      (by rw [MakeChecks.laidMetH_plain _ _ _ (by kernel_rfl)]; exact laidMet_laidAll _ (by kernel_rfl) (by kernel_rfl))) ?_
  intro W base args ds gs before hval0 hW _ _ hL hsh _
  have hval : ∀ (j : Nat) t v, Tryz.f3.params[j]? = some t → args[j]? = some v → Value.okWide Tryz.prog W .any base t v := hval0
  have hW' := hW
  obtain ⟨p, q, hA0, hV, rfl, _, _⟩ := hW
  have hA : DataW.TrodAll enc Tryz.prog W 0 (fun _ => true) true Tryz.f3.params.toList args.toList ds p := hA0
  rw [Tryz.params3] at hA hval
  obtain ⟨v0, vs0, d0, ds0, p0, q0, hargs, rfl, rfl, h0, r0⟩ := trodAll_cons hA
  obtain ⟨v1, vs1, d1, ds1, p1, q1, rfl, rfl, rfl, h1, r1⟩ := trodAll_cons r0
  obtain ⟨v2, vs2, d2, ds2, p2, q2, rfl, rfl, rfl, h2, r2⟩ := trodAll_cons r1
  obtain ⟨v3, vs3, d3, ds3, p3, q3, rfl, rfl, rfl, h3, r3⟩ := trodAll_cons r2
  obtain ⟨rfl, rfl, rfl⟩ := trodAll_nil r3
  obtain rfl : args = #[v0, v1, v2, v3] := by cases args; simp_all
  obtain ⟨rfl, rfl⟩ := trodVars_none hV
  have lt0 : ∀ x ∈ p0, x.block < W.heap.size := by obtain ⟨m, hm⟩ := h0; exact DataW.trod_lt m _ _ _ hm
  have lt2 : ∀ x ∈ p2, x.block < W.heap.size := by obtain ⟨m, hm⟩ := h2; exact DataW.trod_lt m _ _ _ hm
  have lt3 : ∀ x ∈ p3, x.block < W.heap.size := by obtain ⟨m, hm⟩ := h3; exact DataW.trod_lt m _ _ _ hm
  have k0 := h0
  have k2 := h2
  have k3 := h3
  obtain ⟨cs, rfl, hsz⟩ := okWide_struct Tryz.underlying24 (hval 0 24 v0 rfl rfl)
  obtain ⟨fuel, hf⟩ := h0
  obtain ⟨c0, c1, c2, c3, c4, c5, c6, rfl, hall⟩ := tab_fields (hsz.trans (by kernel_rfl)) (by simpa [Value.cells] using hf)
  obtain ⟨_, _, _, z0, -, s0⟩ := hall c0 (by simp)
  obtain ⟨_, _, _, z1, -, s1⟩ := hall c1 (by simp)
  obtain ⟨_, _, _, z2, -, s2⟩ := hall c2 (by simp)
  obtain ⟨_, _, _, z3, -, s3⟩ := hall c3 (by simp)
  obtain ⟨_, _, _, z4, -, s4⟩ := hall c4 (by simp)
  obtain ⟨_, _, _, z5, -, s5⟩ := hall c5 (by simp)
  obtain ⟨_, _, _, z6, -, s6⟩ := hall c6 (by simp)
  obtain ⟨x1, rfl, rfl, rfl, wx1⟩ := open_int Tryz.underlying3 (hval 1 3 v1 rfl rfl) h1
  obtain ⟨a2, l2, cp2, rfl⟩ := okWide_slice Tryz.underlying22 (hval 2 22 v2 rfl rfl)
  obtain ⟨fuel2, hf2⟩ := h2
  obtain ⟨zf, sf⟩ := sl_ints (by simpa [Value.cells] using hf2)
  obtain ⟨a3, l3, cp3, rfl⟩ := okWide_slice Tryz.underlying25 (hval 3 25 v3 rfl rfl)
  obtain ⟨fuel3, hf3⟩ := h3
  obtain ⟨zb, sb⟩ := sl_bools (by simpa [Value.cells] using hf3)
  have hGV : GV W := cell_of_shapedOpen_int (P := Tryz.prog) (g := 0) (t := 3) (zero := #[.int .i64 0]) hsh (of_decide_eq_true (by kernel_rfl)) (by kernel_rfl) rfl (by kernel_rfl) (by kernel_rfl) Tryz.underlying3
  clear hA0 hval0 hall hf hf2 hf3
  refine (arrives_calls ⟨z0, z1, z2, z3, z4, z5, z6⟩ x1 zf zb c0 c1 c2 c3 c4 c5 c6 _ _ _ W s0 s1 s2 s3 s4 s5 s6 sf sb hGV).mono fun e W' ⟨he, bel⟩ => ?_
  subst he
  exact ⟨_, rfl, _, _, _, [], _, [], hW', trodAll_mk1 (shut_bool Tryz.underlying4 _), (trodAll_cons_mk (Below.trod laidOut (by kernel_rfl) (of_decide_eq_true (by kernel_rfl)) k0 bel lt0) (trodAll_cons_mk (shut_int Tryz.underlying3 wx1) (trodAll_cons_mk (Below.trod laidOut (by kernel_rfl) (of_decide_eq_true (by kernel_rfl)) k2 bel lt2) (trodAll_cons_mk (Below.trod laidOut (by kernel_rfl) (of_decide_eq_true (by kernel_rfl)) k3 bel lt3) trodAll_mk0)))), rfl, bel.frame _, fun h => by cases h⟩

theorem row_holds : Rows.TravelArrivesSaid :=
  OpenClaim.holds_of_wide 3 Tryz.f3 rfl rfl rfl rfl rfl rfl rfl ⟨rfl, rfl, rfl, rfl, rfl⟩ rfl rfl rfl rfl rfl (by kernel_rfl) Tryz.func3 (by kernel_rfl)
    (of_decide_eq_true (by kernel_rfl)) (by unfold Func.isWrapper; first | (rw [if_pos (by decide +kernel)]; kernel_rfl) | (rw [if_neg (by decide +kernel)]; exact ⟨rfl, rfl⟩))
    (fun os started H enc _ => lifted os started H enc)
theorem travelArrives_holds : Rows.TravelArrivesCardSaid :=
  Claim7.holds_tied_plain_at .later [] [.data, .pinned] true (true, "6c48f899711b5c2989737b562bdb0d25ad5ef5b77165edca1ce0f7440d213603") false row_holds (fun _ h => by cases h) (by kernel_rfl) (fun _ h => by cases h) travelArrives_row_tie rfl ⟨rfl, rfl⟩ (by kernel_rfl) rfl
    (fun f fn hf hfn => by
      obtain rfl : f = 3 := Option.some.inj ((show Tryz.prog.funcNamed "portico/porticolaw10.TravelArrives" = some 3 by kernel_rfl).symm.trans hf) |>.symm
      obtain rfl : fn = Tryz.f3 := (Option.some.inj (Tryz.func3.symm.trans hfn)).symm
      exact ⟨by kernel_rfl, fun j t ht => by
        rw [Tryz.params3] at ht
        have hm : t ∈ [24, 3, 22, 25] := by simpa using Array.mem_of_getElem? ht
        have hall : ([24, 3, 22, 25].all fun u => !Tryz.prog.wantsStandIn u) = true := by kernel_rfl
        exact (show Tryz.prog.wantsStandIn t = false by simpa using List.all_eq_true.1 hall t hm)⟩)
    (by kernel_rfl)
#print axioms travelArrives_holds
end Go.Proofs.YtejbkjndipineaaGreatDoor
