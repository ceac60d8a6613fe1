/- Plain law: what a right URL without a query prints parses to it again. -/
import Derived.Test.YtejbkjndipineaaGreatDoorPrint
namespace Go.Proofs.YtejbkjndipineaaGreatDoor
open Go Go.RowKit PR
set_option linter.unusedVariables false
set_option linter.unusedSimpArgs false
set_option maxHeartbeats 400000
set_option maxRecDepth 100000

theorem encB_facts : ∀ n, n < 256 → (plainN n = true → n ≠ 37 ∧ n ≠ 63 ∧ n ≠ 47) ∧ (hexd (n / 16)).toNat ≠ 63 ∧ (hexd (n / 16)).toNat ≠ 47 ∧ (hexd (n % 16)).toNat ≠ 63 ∧ (hexd (n % 16)).toNat ≠ 47 ∧
    ¬ (digitN (hexd (n / 16)).toNat < 0) ∧ ¬ (digitN (hexd (n % 16)).toNat < 0) ∧ (digitN (hexd (n / 16)).toNat).toNat * 16 + (digitN (hexd (n % 16)).toNat).toNat = n := by decide +kernel
theorem decL_enc : ∀ l : List UInt8, decL (encL l) = some l
  | [] => rfl
  | c :: l => by
    have ih := decL_enc l
    obtain ⟨h1, -, -, -, -, h6, h7, h8⟩ := encB_facts c.toNat c.toNat_lt
    unfold encL at ih ⊢
    rw [List.flatMap_cons]
    by_cases hp : plainN c.toNat = true
    · have hc : c ≠ 37 := fun e => (h1 hp).1 (by rw [e]; rfl)
      rw [show encB c = [c] by unfold encB; rw [if_pos hp], List.singleton_append, decL.eq_def]
      simp only
      rw [if_neg hc, if_pos hp, ih]
      rfl
    · rw [show encB c = [37, hexd (c.toNat / 16), hexd (c.toNat % 16)] by unfold encB; rw [if_neg hp]]
      simp only [List.cons_append, List.nil_append]
      rw [decL.eq_def]
      simp only
      rw [if_pos trivial, if_neg (by rintro (h | h); exact h6 h; exact h7 h), ih, h8]
      simp
theorem decS_enc (s : ByteArray) : decS (encS s) = (s, true) := by
  unfold decS encS
  simp only [decL_enc]
theorem enc_no (l : List UInt8) : (63 : UInt8) ∉ encL l ∧ (47 : UInt8) ∉ encL l := by
  have h : ∀ b ∈ encL l, b ≠ 63 ∧ b ≠ 47 := by
    intro b hb
    unfold encL at hb
    obtain ⟨c, -, hb⟩ := List.mem_flatMap.1 hb
    obtain ⟨h1, h2, h3, h4, h5, -⟩ := encB_facts c.toNat c.toNat_lt
    unfold encB at hb
    split at hb
    · next hp =>
      simp at hb
      subst hb
      exact ⟨fun e => (h1 hp).2.1 (by rw [e]; rfl), fun e => (h1 hp).2.2 (by rw [e]; rfl)⟩
    · simp at hb
      rcases hb with rfl | rfl | rfl
      · exact ⟨by decide, by decide⟩
      · exact ⟨fun e => h2 (by rw [e]; rfl), fun e => h3 (by rw [e]; rfl)⟩
      · exact ⟨fun e => h4 (by rw [e]; rfl), fun e => h5 (by rw [e]; rfl)⟩
  exact ⟨fun hm => (h _ hm).1 rfl, fun hm => (h _ hm).2 rfl⟩

/-- Pieces with a byte between them, cut at it again. -/
theorem indexOf_app (c : UInt8) : ∀ (x r : List UInt8), c ∉ x → Lib.index (x ++ c :: r) [c] = (x.length : Int)
  | [], r, _ => by simp [Lib.index]
  | b :: x, r, h => by
    have hb : (c == b) = false := by
      rw [beq_eq_false_iff_ne]
      rintro rfl
      exact h (List.mem_cons_self ..)
    have ih := indexOf_app c x r (fun hm => h (List.mem_cons_of_mem _ hm))
    rw [List.cons_append, Lib.index, ih]
    simp [List.isPrefixOf, hb]
theorem indexOf_miss (c : UInt8) : ∀ x : List UInt8, c ∉ x → Lib.index x [c] = -1
  | [], _ => rfl
  | b :: x, h => by
    have hb : (c == b) = false := by
      rw [beq_eq_false_iff_ne]
      rintro rfl
      exact h (List.mem_cons_self ..)
    rw [Lib.index, indexOf_miss c x (fun hm => h (List.mem_cons_of_mem _ hm))]
    simp [List.isPrefixOf, hb]
def glueL (c : UInt8) : List (List UInt8) → List UInt8
  | [] => []
  | [x] => x
  | x :: y :: r => x ++ c :: glueL c (y :: r)
theorem splitK_glue (c : UInt8) : ∀ (x : List UInt8) (r : List (List UInt8)), (∀ y ∈ x :: r, c ∉ y) → Lib.splitK [c] 0 r.length (glueL c (x :: r)) = x :: r
  | x, [], h => rfl
  | x, y :: r, h => by
    have hi := indexOf_app c x (glueL c (y :: r)) (h x (List.mem_cons_self ..))
    rw [List.length_cons, glueL, Lib.splitK, hi]
    rw [if_neg (by simp)]
    have ih := splitK_glue c y r (fun z hz => h z (List.mem_cons_of_mem _ hz))
    have e1 : ((x.length : Int).toNat + 0) = x.length := by simp
    have e2 : ((x.length : Int).toNat + [c].length) = x.length + 1 := by simp
    rw [e1, e2, List.take_left', List.drop_append]
    · rw [List.drop_eq_nil_of_le (by omega)]
      simp [ih]
    · rfl
theorem count_glue (c : UInt8) : ∀ (x : List UInt8) (r : List (List UInt8)), (∀ y ∈ x :: r, c ∉ y) → (glueL c (x :: r)).count c = r.length
  | x, [], h => by
    rw [glueL]
    exact List.count_eq_zero.2 (h x (List.mem_cons_self ..))
  | x, y :: r, h => by
    rw [glueL, List.count_append, List.count_cons_self, count_glue c y r (fun z hz => h z (List.mem_cons_of_mem _ hz)), List.count_eq_zero.2 (h x (List.mem_cons_self ..)), List.length_cons]
    omega

theorem spS_glue (c : UInt8) (x : ByteArray) (r : List ByteArray) (h : ∀ y ∈ x :: r, c ∉ y.data.toList) (s : ByteArray) (hs : s.data.toList = glueL c ((x :: r).map (·.data.toList))) : spS c s = x :: r := by
  have h' : ∀ y ∈ (x :: r).map (·.data.toList), c ∉ y := by
    intro y hy
    obtain ⟨z, hz, rfl⟩ := List.mem_map.1 hy
    exact h z hz
  have hcount : Lib.countB s ⟨#[c]⟩ = r.length := by
    show Lib.count s.data.toList [c] = _
    rw [Lib.count_one, hs, List.map_cons, count_glue c _ _ h', List.length_map]
  unfold spS
  have hd := Lib.splitB_data ⟨#[c]⟩ 0 (Lib.countB s ⟨#[c]⟩) s
  rw [hcount, hs] at hd
  rw [hcount]
  have e : (⟨#[c]⟩ : ByteArray).data.toList = [c] := rfl
  have h2 := splitK_glue c x.data.toList (r.map (fun y : ByteArray => y.data.toList)) (fun y hy => h' y (by rw [List.map_cons]; exact hy))
  rw [List.length_map] at h2
  rw [e, List.map_cons, h2] at hd
  have inj : ∀ (a b : List ByteArray), a.map (·.data.toList) = b.map (·.data.toList) → a = b := by
    intro a
    induction a with
    | nil => intro b hb; cases b with
      | nil => rfl
      | cons _ _ => simp at hb
    | cons p a ih =>
      intro b hb
      cases b with
      | nil => simp at hb
      | cons q b =>
        simp only [List.map_cons, List.cons.injEq] at hb
        rw [ih b hb.2]
        congr 1
        cases p
        cases q
        congr 1
        exact Array.toList_inj.1 hb.1
  exact inj _ _ hd
theorem decAll_enc : ∀ (xs acc : List ByteArray), acc.length + xs.length ≤ 8 → decAll acc (xs.map encS) = (acc ++ xs, true)
  | [], acc, _ => by simp [decAll]
  | x :: xs, acc, h => by
    simp only [List.length_cons] at h
    rw [List.map_cons, decAll, decS_enc]
    simp only
    rw [if_neg (by simp; omega), decAll_enc xs (acc ++ [x]) (by simp; omega)]
    simp
theorem pL_glue : ∀ (x : ByteArray) (r : List ByteArray), pL (x :: r) = 47 :: glueL 47 ((x :: r).map (fun s => encL s.data.toList))
  | x, [] => by simp [pL, glueL]
  | x, y :: r => by
    have := pL_glue y r
    unfold pL at this ⊢
    rw [List.flatMap_cons, this]
    simp [glueL]
theorem pL_no63 (l : List ByteArray) : (63 : UInt8) ∉ pL l := by
  unfold pL
  intro h
  obtain ⟨s, -, hs⟩ := List.mem_flatMap.1 h
  rcases List.mem_cons.1 hs with e | e
  · cases e
  · exact (enc_no _).1 e

theorem parse_print (p : List ByteArray) (h : rightS ⟨p, []⟩ = true) : parseS (printS ⟨p, []⟩) = (⟨p, []⟩, 0) := by
  have hpr : printS ⟨p, []⟩ = ⟨(pL p ++ (if p.length = 0 then [47] else [])).toArray⟩ := by
    unfold printS
    rw [if_pos h]
    unfold printL
    simp [qL]
  have h63 : (63 : UInt8) ∉ pL p ++ (if p.length = 0 then [47] else []) := by
    intro hm
    rcases List.mem_append.1 hm with hm | hm
    · exact pL_no63 _ hm
    · split at hm
      · simp at hm
      · simp at hm
  have hbd := rightS_bd _ h
  rw [hpr]
  generalize hL : pL p ++ (if p.length = 0 then [47] else []) = L at *
  have hcut : cutS 63 ⟨L.toArray⟩ = (⟨L.toArray⟩, ⟨#[]⟩, false) := by
    unfold cutS Lib.cut
    simp only
    rw [indexOf_miss 63 L h63]
    simp
  have hpath : pathS ⟨L.toArray⟩ = (p, true) := by
    cases p with
    | nil =>
      have : L = [47] := by rw [← hL]; simp [pL]
      rw [this]
      decide
    | cons x r =>
      have hL2 : L = 47 :: glueL 47 ((x :: r).map (fun s => encL s.data.toList)) := by
        rw [← hL, pL_glue]
        simp
      have hx : 1 ≤ x.size := by
        simp only [rightS, Bool.and_eq_true, decide_eq_true_iff, List.all_eq_true] at h
        have := h.1.2 x (List.mem_cons_self ..)
        simp only [textS, Bool.and_eq_true, decide_eq_true_iff] at this
        omega
      unfold pathS
      have hsz : (⟨L.toArray⟩ : ByteArray).size = L.length := by simp [ByteArray.size]
      rw [if_neg, if_neg]
      · have hsp : spS 47 ((⟨L.toArray⟩ : ByteArray).extract 1 (⟨L.toArray⟩ : ByteArray).size) = (x :: r).map encS := by
          rw [List.map_cons]
          refine spS_glue 47 (encS x) (r.map encS) (fun y hy => ?_) _ ?_
          · rw [← List.map_cons] at hy
            obtain ⟨z, -, rfl⟩ := List.mem_map.1 hy
            exact (enc_no _).2
          · rw [Lib.extract_to_end, ← List.map_cons, List.map_map]
            show List.drop 1 L = _
            rw [hL2]
            rfl
        rw [hsp, decAll_enc _ _ (by simpa using hbd.1)]
        rfl
      · intro e
        have e2 : L = [47] := by
          have := congrArg (fun b : ByteArray => b.data.toList) e
          simpa using this
        rw [hL2] at e2
        have hlen : 1 ≤ (encL x.data.toList).length := by
          cases hd : x.data.toList with
          | nil =>
            have := data_size x
            rw [hd] at this
            simp at this
            omega
          | cons c l =>
            unfold encL encB
            rw [List.flatMap_cons]
            split <;> simp
        have := congrArg List.length e2
        cases r with
        | nil => simp [glueL] at this; simp [this] at hlen
        | cons y r => simp [glueL] at this
      · rintro (e | e)
        · rw [hsz, hL2] at e
          simp at e
        · apply e
          rw [hL2]
          rfl
  unfold parseS
  rw [hcut]
  simp only [hpath]
  unfold parseF
  simp [h]
end Go.Proofs.YtejbkjndipineaaGreatDoor
