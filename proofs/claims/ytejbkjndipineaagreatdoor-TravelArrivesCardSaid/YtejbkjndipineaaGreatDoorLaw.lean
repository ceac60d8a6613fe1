/- Plain law: TravelArrives over what the functions compute. -/
import Derived.Test.YtejbkjndipineaaGreatDoorPure
import Derived.Test.YtejbkjndipineaaGreatDoorGo
import Derived.Test.YtejbkjndipineaaGreatDoorRec1
namespace Go.Proofs.YtejbkjndipineaaGreatDoor
open Go Go.RowKit PR
set_option linter.unusedVariables false
set_option linter.unusedSimpArgs false
set_option maxHeartbeats 400000
set_option maxRecDepth 100000

theorem upS_len (ps : List Int) : ∀ (n : Nat) (k : Int) (acc : List Int), (k + 1).toNat ≤ n → (upS ps k acc).length ≤ acc.length + n ∧ ∀ x ∈ upS ps k acc, x ∈ acc ∨ (0 ≤ x ∧ x ≤ k)
  | 0, k, acc, h => by
    rw [upS, dif_neg (by omega), if_neg (by omega)]
    exact ⟨by omega, fun x hx => .inl hx⟩
  | n + 1, k, acc, h => by
    rw [upS]
    split
    · next hc =>
      obtain ⟨h1, h2⟩ := upS_len ps n (ps.getD k.toNat (-1)) (k :: acc) (by omega)
      refine ⟨by simp only [List.length_cons] at h1; omega, fun x hx => ?_⟩
      rcases h2 x hx with h3 | h3
      · rcases List.mem_cons.1 h3 with rfl | h4
        · exact .inr ⟨hc.1, Int.le_refl _⟩
        · exact .inl h4
      · exact .inr ⟨h3.1, by omega⟩
    · split
      · next h0 =>
        refine ⟨by simp only [List.length_cons]; omega, fun x hx => ?_⟩
        rcases List.mem_cons.1 hx with rfl | h4
        · exact .inr ⟨h0, Int.le_refl _⟩
        · exact .inl h4
      · exact ⟨by omega, fun x hx => .inl hx⟩
/-- A text that stands for itself in a URL. -/
def GoodT (t : ByteArray) : Prop := encL t.data.toList = t.data.toList ∧ 1 ≤ t.size ∧ t.size ≤ 64
theorem good_tab : ∀ t ∈ tabTexts, GoodT t := by
  intro t ht
  simp only [tabTexts, List.mem_cons, List.mem_nil_iff, or_false] at ht
  rcases ht with rfl | rfl | rfl | rfl | rfl | rfl <;> exact ⟨by decide +kernel, by decide, by decide⟩
theorem good_word (n : Nat) (h : n < 4) : GoodT (toWords.getD n ⟨#[]⟩) := by
  have : n = 0 ∨ n = 1 ∨ n = 2 ∨ n = 3 := by omega
  rcases this with rfl | rfl | rfl | rfl <;> exact ⟨by decide +kernel, by decide, by decide⟩
theorem toStep_good (fill : List Int) (st : ByteArray × Nat) (x : Seg) (hx : SegMade x) : ∃ t, GoodT t ∧ (toStep fill st x).1.data.toList = st.1.data.toList ++ pL [t] := by
  have key : ∀ t : ByteArray, GoodT t → (st.1 ++ ⟨#[47]⟩ ++ t).data.toList = st.1.data.toList ++ pL [t] := by
    intro t ht
    simp [pL, ht.1]
  unfold toStep
  simp only
  by_cases h0 : x.kind = 0
  · rw [if_pos h0]
    exact ⟨x.text, good_tab _ (hx.text h0), key _ (good_tab _ (hx.text h0))⟩
  · rw [if_neg h0]
    have hw := within_bd (pickS fill st.2) 0 3 (by omega)
    exact ⟨_, good_word _ (by omega), key _ (good_word _ (by omega))⟩
theorem pL_app (a b : List ByteArray) : pL (a ++ b) = pL a ++ pL b := by unfold pL; rw [List.flatMap_append]
theorem toSegs_good {rs : List Record} (hm : Made rs) (fill : List Int) : ∀ (ch : List Int) (st : ByteArray × Nat), (∀ x ∈ ch, 0 ≤ x ∧ x < rs.length) → ∃ ts : List ByteArray, (∀ t ∈ ts, GoodT t) ∧ ts.length ≤ ch.length ∧ (toSegs rs fill ch st).1.data.toList = st.1.data.toList ++ pL ts
  | [], st, _ => ⟨[], by simp, by simp, by simp [toSegs, pL]⟩
  | k :: ch, st, h => by
    obtain ⟨h0, h1⟩ := h k (List.mem_cons_self ..)
    have hk : k.toNat < rs.length := by omega
    have hg : rs.getD k.toNat ⟨⟨#[]⟩, 0, [], 0, false, ⟨0, 0, ⟨#[]⟩⟩⟩ = rs[k.toNat] := by simp [List.getD, hk]
    have hl := hm.segs k.toNat hk
    have hs := hm.made k.toNat hk
    have hstep : toSegs rs fill (k :: ch) st = toSegs rs fill ch ((rs[k.toNat]).segs.foldl (toStep fill) st) := by
      unfold toSegs
      rw [List.foldl_cons, hg]
    rw [hstep]
    generalize (rs[k.toNat]).segs = sg at *
    match sg, hl, hs with
    | [], _, _ =>
      obtain ⟨ts, g1, g2, g3⟩ := toSegs_good hm fill ch st (fun x hx => h x (List.mem_cons_of_mem _ hx))
      exact ⟨ts, g1, by simp only [List.length_cons]; omega, g3⟩
    | [x], _, hs =>
      obtain ⟨t, t1, t2⟩ := toStep_good fill st x (hs x (List.mem_cons_self ..))
      obtain ⟨ts, g1, g2, g3⟩ := toSegs_good hm fill ch (toStep fill st x) (fun x hx => h x (List.mem_cons_of_mem _ hx))
      refine ⟨t :: ts, fun y hy => ?_, by simp only [List.length_cons]; omega, ?_⟩
      · rcases List.mem_cons.1 hy with rfl | hy
        · exact t1
        · exact g1 y hy
      · show (toSegs rs fill ch (toStep fill st x)).1.data.toList = _
        rw [g3, t2, List.append_assoc, ← pL_app]
        rfl
    | _ :: _ :: _, hl, _ => simp at hl
theorem toS_print {rs : List Record} (hm : Made rs) (at_ : Int) (fill : List Int) : ∃ ts : List ByteArray, rightS ⟨ts, []⟩ = true ∧ toS rs at_ fill = printS ⟨ts, []⟩ := by
  have hpos := hm.pos
  have hlen := hm.len
  have hw := within_bd at_ 0 (rs.length - 1) (by omega)
  obtain ⟨u1, u2⟩ := upS_len (rs.map (·.parent)) 8 (withinS at_ 0 (rs.length - 1)) [] (by omega)
  obtain ⟨ts, g1, g2, g3⟩ := toSegs_good hm fill (upS (rs.map (·.parent)) (withinS at_ 0 (rs.length - 1)) []) (⟨#[]⟩, 0) (fun x hx => by
    rcases u2 x hx with h | h
    · simp at h
    · omega)
  have hr : rightS ⟨ts, []⟩ = true := by
    simp only [rightS, Bool.and_eq_true, decide_eq_true_iff, List.all_eq_true]
    refine ⟨⟨⟨by simp only [List.length_nil] at u1; omega, by simp⟩, fun t ht => ?_⟩, fun p hp => by simp at hp⟩
    have := g1 t ht
    simp only [textS, Bool.and_eq_true, decide_eq_true_iff]
    have h1 := this.2.1
    have h2 := this.2.2
    omega
  have hpr : printS ⟨ts, []⟩ = ⟨(pL ts ++ (if ts.length = 0 then [47] else [])).toArray⟩ := by
    unfold printS
    rw [if_pos hr]
    unfold printL
    simp [qL]
  refine ⟨ts, hr, ?_⟩
  rw [hpr]
  unfold toS
  simp only
  generalize (toSegs rs fill (upS (rs.map (·.parent)) (withinS at_ 0 (rs.length - 1)) []) (⟨#[]⟩, 0)).1 = s at *
  have g4 : s.data.toList = pL ts := by simpa using g3
  cases ts with
  | nil =>
    have hz : s.size = 0 := by
      rw [← data_size, g4]
      simp [pL]
    rw [if_pos hz]
    simp [pL]
  | cons t ts =>
    have hz : ¬ s.size = 0 := by
      rw [← data_size, g4]
      simp [pL]
    rw [if_neg hz]
    cases s
    congr 1
    rw [← Array.toList_inj]
    simpa using g4

theorem go_err (l : List Record) (fl : List Bool) : ∀ (n : Nat) (hops : Int) (u : URL), (goS l fl n hops u).2 ≠ 0 → (goS l fl n hops u).1 = .zero ∧ ((goS l fl n hops u).2 = 2 ∨ (goS l fl n hops u).2 = 3 ∨ (goS l fl n hops u).2 = 4) := by
  intro n
  induction n with
  | zero =>
    intro hops u
    rw [goS.eq_def]
    dsimp only
    split
    · intro _; exact ⟨rfl, .inl rfl⟩
    · split
      · intro h; exact absurd rfl h
      · split
        · intro _; exact ⟨rfl, .inr (.inl rfl)⟩
        · intro _; exact ⟨rfl, .inr (.inr rfl)⟩
  | succ n ih =>
    intro hops u
    rw [goS.eq_def]
    dsimp only
    split
    · intro _; exact ⟨rfl, .inl rfl⟩
    · split
      · intro h; exact absurd rfl h
      · split
        · intro _; exact ⟨rfl, .inr (.inl rfl)⟩
        · split
          · intro _; exact ⟨rfl, .inl rfl⟩
          · exact ih _ _
/-- Where one arrives all pass. -/
structure Arrived (l : List Record) (fl : List Bool) (pl : Place) : Prop where
  found : (resolveS l pl.url.path).2.2 = true
  id : pl.id = (resolveS l pl.url.path).1
  params : pl.params = (resolveS l pl.url.path).2.1
  chain : pl.chain = chainS l (resolveS l pl.url.path).1
  pass : (allS fl 0 (pl.chain.map (ruleAt l))).1 = 0
theorem reverse_right {l : List Record} {s : ByteArray} {ps : List Pair} (h : (reverseS l s ps).2 = true) : rightS ⟨(reverseS l s ps).1, []⟩ = true := by
  unfold reverseS at h ⊢
  split at h
  · cases h
  · split at h
    · rw [if_neg (by assumption), if_pos (by assumption)]
      unfold buildS at h ⊢
      split at h
      · next hc => rw [if_pos hc]; exact hc.2.2.1
      · cases h
    · cases h
theorem go_ok (l : List Record) (fl : List Bool) : ∀ (n : Nat) (hops : Int) (u : URL), rightS u = true → u.query = [] → (goS l fl n hops u).2 = 0 → Arrived l fl (goS l fl n hops u).1 ∧ rightS (goS l fl n hops u).1.url = true ∧ (goS l fl n hops u).1.url.query = [] ∧ hops ≤ (goS l fl n hops u).1.hops ∧ (goS l fl n hops u).1.hops ≤ hops + n ∧ ((goS l fl n hops u).1.hops = hops → (goS l fl n hops u).1.url = u) := by
  intro n
  induction n with
  | zero =>
    intro hops u hr hq
    rw [goS.eq_def]
    dsimp only
    split
    · intro h; cases h
    · next hf =>
      split
      · next ha =>
        intro _
        exact ⟨⟨by simpa using hf, rfl, rfl, rfl, ha⟩, hr, hq, Int.le_refl _, by simp, fun _ => rfl⟩
      · split
        · intro h; cases h
        · intro h; cases h
  | succ n ih =>
    intro hops u hr hq
    rw [goS.eq_def]
    dsimp only
    split
    · intro h; cases h
    · next hf =>
      split
      · next ha =>
        intro _
        exact ⟨⟨by simpa using hf, rfl, rfl, rfl, ha⟩, hr, hq, Int.le_refl _, by simp only; omega, fun _ => rfl⟩
      · split
        · intro h; cases h
        · split
          · intro h; cases h
          · next hv =>
            intro h
            obtain ⟨h1, h2, h3, h4, h5, h6⟩ := ih (hops + 1) _ (reverse_right (by simpa using hv)) rfl h
            exact ⟨h1, h2, h3, by omega, by omega, fun e => by omega⟩
theorem go_stays (l : List Record) (fl : List Bool) (n : Nat) (pl : Place) (h : Arrived l fl pl) : goS l fl n 0 pl.url = (⟨pl.url, pl.id, pl.chain, pl.params, 0⟩, 0) := by
  obtain ⟨h1, h2, h3, h4, h5⟩ := h
  rw [goS.eq_def]
  dsimp only
  rw [if_neg (by rw [h1]; simp), if_pos (by rw [← h4]; exact h5), h2, h3, h4]
theorem pL_len : ∀ l : List ByteArray, (∀ t ∈ l, t.size ≤ 64) → (pL l).length ≤ 193 * l.length
  | [], _ => by simp [pL]
  | t :: l, h => by
    have ih := pL_len l (fun x hx => h x (List.mem_cons_of_mem _ hx))
    have h1 := h t (List.mem_cons_self ..)
    have h2 := encL_len t.data.toList
    rw [data_size] at h2
    unfold pL at ih ⊢
    rw [List.flatMap_cons]
    simp only [List.length_append, List.length_cons]
    omega
theorem print_size (p : List ByteArray) (h : rightS ⟨p, []⟩ = true) : (printS ⟨p, []⟩).size ≤ 16777216 := by
  have hb := rightS_bd _ h
  have h1 := pL_len p hb.2.2.1
  have h2 := hb.1
  unfold printS
  rw [if_pos h]
  unfold printL
  show (List.toArray _).size ≤ _
  simp only [qL, List.append_nil, List.size_toArray, List.length_append]
  simp only at h2
  split <;> simp <;> omega
theorem toS_size {rs : List Record} (hm : Made rs) (at_ : Int) (fill : List Int) : (toS rs at_ fill).size ≤ 16777216 := by
  obtain ⟨ts, hr, hs⟩ := toS_print hm at_ fill
  rw [hs]
  exact print_size ts hr
theorem Made.sg {rs : List Record} (hm : Made rs) : ∀ r ∈ rs, r.segs.length ≤ 65536 := by
  intro r hr
  obtain ⟨i, hi, rfl⟩ := List.getElem_of_mem hr
  have := hm.segs i hi
  omega
/-- The law, over what the functions compute. -/
theorem arrives_law {rs : List Record} (hm : Made rs) (at_ : Int) (fill : List Int) (fl : List Bool) :
    ((travelS rs (toS rs at_ fill) fl).2 ≠ 0 → (travelS rs (toS rs at_ fill) fl).1 = .zero ∧ ((travelS rs (toS rs at_ fill) fl).2 = 2 ∨ (travelS rs (toS rs at_ fill) fl).2 = 3 ∨ (travelS rs (toS rs at_ fill) fl).2 = 4)) ∧
    ((travelS rs (toS rs at_ fill) fl).2 = 0 → (∀ x ∈ (travelS rs (toS rs at_ fill) fl).1.chain, 0 ≤ x ∧ x < rs.length) ∧ (allS fl 0 ((travelS rs (toS rs at_ fill) fl).1.chain.map (ruleAt rs))).1 = 0 ∧
      0 ≤ (travelS rs (toS rs at_ fill) fl).1.hops ∧ (travelS rs (toS rs at_ fill) fl).1.hops ≤ 5 ∧ (printS (travelS rs (toS rs at_ fill) fl).1.url).size ≤ 16777216 ∧ (travelS rs (toS rs at_ fill) fl).1.chain.length ≤ 8 ∧
      travelS rs (printS (travelS rs (toS rs at_ fill) fl).1.url) fl = (⟨(travelS rs (toS rs at_ fill) fl).1.url, (travelS rs (toS rs at_ fill) fl).1.id, (travelS rs (toS rs at_ fill) fl).1.chain, (travelS rs (toS rs at_ fill) fl).1.params, 0⟩, 0) ∧
      ((travelS rs (toS rs at_ fill) fl).1.hops = 0 → printS (travelS rs (toS rs at_ fill) fl).1.url = toS rs at_ fill)) := by
  obtain ⟨ts, hr, hs⟩ := toS_print hm at_ fill
  have ht : travelS rs (toS rs at_ fill) fl = goS rs fl 5 0 ⟨ts, []⟩ := by
    unfold travelS
    rw [hs, parse_print ts hr]
    simp
  rw [ht]
  refine ⟨fun h => go_err rs fl 5 0 _ h, fun h => ?_⟩
  obtain ⟨h1, h2, h3, h4, h5, h6⟩ := go_ok rs fl 5 0 ⟨ts, []⟩ hr rfl h
  have hst := go_stays rs fl 5 _ h1
  generalize (goS rs fl 5 0 ⟨ts, []⟩).1 = pl at *
  obtain ⟨⟨pp, pq⟩, id, ch, pr, hp⟩ := pl
  simp only at h2 h3 h4 h5 h6 hst ⊢
  subst h3
  refine ⟨fun x hx => ?_, h1.pass, h4, by omega, print_size pp h2, ?_, ?_, fun e => ?_⟩
  · have := h1.chain
    simp only at this
    rw [this] at hx
    exact chainS_mem hx
  · have := h1.chain
    simp only at this
    rw [this]
    exact Nat.le_trans (chainS_len rs _) hm.len
  · unfold travelS
    rw [parse_print pp h2]
    simpa using hst
  · rw [h6 e, hs]
end Go.Proofs.YtejbkjndipineaaGreatDoor
