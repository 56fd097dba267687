/- A tuple is among the rows just if each atom's edge is there. Plain lists. -/
import Derived.Test.YtcchcifcfcpjiaaJK4
set_option linter.unusedVariables false
set_option linter.unusedSimpArgs false
namespace Go.Proofs.Ytcchcifcfcpjiaa.J
open Go.RowKit Go.Proofs.YtcchcifcfcpjiaaW.PrintWords Go.Proofs.YtcchcifcfcpjiaaW.PrintLast Go.Proofs.YtcchcifcfcpjiaaW.PrintMore Go.Proofs.Ytcchcifcfcpjiaa.PJ

theorem mem_pairsOf (l : ByteArray) (q : Int × Int) : ∀ (es : List S82) (acc : List (Int × Int)), q ∈ es.foldl (pairStep l) acc ↔ q ∈ acc ∨ (⟨q.1, l, q.2⟩ : S82) ∈ es
  | [], acc => by simp
  | e :: es, acc => by
    rw [List.foldl_cons, mem_pairsOf l q es]
    have hs : q ∈ pairStep l acc e ↔ q ∈ acc ∨ (⟨q.1, l, q.2⟩ : S82) = e := by
      obtain ⟨e0, e1, e2⟩ := e
      unfold pairStep addP
      by_cases h1 : e1 = l
      · subst h1
        simp only [if_true]
        by_cases h2 : (e0, e2) ∈ acc
        · rw [if_pos h2]
          constructor
          · exact .inl
          · rintro (h | h)
            · exact h
            · simp only [S82.mk.injEq, true_and] at h
              have : q = (e0, e2) := Prod.ext h.1 h.2
              rw [this]; exact h2
        · rw [if_neg h2, List.mem_append, List.mem_singleton]
          constructor
          · rintro (h | h)
            · exact .inl h
            · rw [h]; exact .inr rfl
          · rintro (h | h)
            · exact .inl h
            · simp only [S82.mk.injEq, true_and] at h
              exact .inr (Prod.ext h.1 h.2)
      · rw [if_neg h1]
        constructor
        · exact .inl
        · rintro (h | h)
          · exact h
          · simp only [S82.mk.injEq] at h
            exact absurd h.2.1.symm h1
    rw [hs, List.mem_cons, or_assoc]
theorem mem_pairs (es : List S82) (l : ByteArray) (x y : Int) : (x, y) ∈ pairsOf es l ↔ (⟨x, l, y⟩ : S82) ∈ es := by
  unfold pairsOf
  rw [mem_pairsOf]
  simp
theorem mem_froms (ps : List (Int × Int)) (a b : Int) : b ∈ froms ps a ↔ (a, b) ∈ ps := by
  unfold froms
  simp only [List.mem_map, List.mem_filter, decide_eq_true_eq, Prod.exists]
  constructor
  · rintro ⟨x, y, ⟨h, rfl⟩, rfl⟩; exact h
  · intro h; exact ⟨a, b, ⟨h, rfl⟩, rfl⟩

theorem split_last {r' : List Int} {n : Nat} (h : r'.length = n + 1) : r' = r'.take n ++ [r'.getD n 0] := by
  have h1 : r'.take (n + 1) = r'.take n ++ [r'.getD n 0] := by
    rw [List.take_add_one, List.getD_eq_getElem?_getD, List.getElem?_eq_getElem (by omega)]
    rfl
  rw [← h1, List.take_of_length_le (by omega)]
theorem getD_take {r' : List Int} {n i : Nat} (h : i < n) : (r'.take n).getD i 0 = r'.getD i 0 := by
  rw [List.getD_eq_getElem?_getD, List.getD_eq_getElem?_getD, List.getElem?_take, if_pos h]

theorem mem_extM (ps : List (Int × Int)) (r r' : List Int) (f t n' : Nat) (hf : f ≤ r.length) (ht : t ≤ r.length + 1) (hft : f < r.length → t ≤ r.length) (hn : n' = max r.length (max (f + 1) (t + 1))) :
    r' ∈ extM ps r f t ↔ r'.length = n' ∧ r'.take r.length = r ∧ (r'.getD f 0, r'.getD t 0) ∈ ps := by
  unfold extM
  by_cases h1 : f < r.length
  · rw [if_pos h1]
    by_cases h2 : t < r.length
    · rw [if_pos h2]
      have hn2 : n' = r.length := by omega
      constructor
      · intro h
        by_cases h3 : (r.getD f 0, r.getD t 0) ∈ ps
        · rw [if_pos h3, List.mem_singleton] at h
          subst h
          exact ⟨hn2.symm, List.take_length, h3⟩
        · rw [if_neg h3] at h; simp at h
      · rintro ⟨h3, h4, h5⟩
        have : r' = r := by rw [← h4, List.take_of_length_le (by omega)]
        subst this
        rw [if_pos h5]
        exact List.mem_singleton.2 rfl
    · rw [if_neg h2]
      have hte : t = r.length := by have := hft h1; omega
      have hn2 : n' = r.length + 1 := by omega
      constructor
      · intro h
        obtain ⟨b, hb, rfl⟩ := List.mem_map.1 h
        have hb2 := (mem_froms _ _ _).1 hb
        refine ⟨by rw [hn2]; simp, by simp, ?_⟩
        rw [hte]
        simpa [List.getD_eq_getElem?_getD, List.getElem?_append_left h1] using hb2
      · rintro ⟨h3, h4, h5⟩
        have hs := split_last (h3.trans hn2)
        rw [h4] at hs
        refine List.mem_map.2 ⟨r'.getD r.length 0, (mem_froms _ _ _).2 ?_, hs.symm⟩
        rw [← hte, ← h4, getD_take (by omega)]
        exact h5
  · rw [if_neg h1]
    have hfe : f = r.length := by omega
    rw [List.mem_flatMap]
    by_cases h2 : t = r.length + 1
    · have hn2 : n' = r.length + 1 + 1 := by omega
      constructor
      · rintro ⟨p, hp, h⟩
        rw [if_pos h2, List.mem_singleton] at h
        subst h
        refine ⟨by rw [hn2]; simp, by simp, ?_⟩
        have e1 : (r ++ [p.1] ++ [p.2]).getD f 0 = p.1 := by rw [hfe]; simp [List.getD_eq_getElem?_getD]
        have e2 : (r ++ [p.1] ++ [p.2]).getD t 0 = p.2 := by rw [h2]; simp [List.getD_eq_getElem?_getD]
        rw [e1, e2]
        exact hp
      · rintro ⟨h3, h4, h5⟩
        refine ⟨_, h5, ?_⟩
        rw [if_pos h2, List.mem_singleton]
        have hs := split_last (h3.trans hn2)
        have hs2 := split_last (r' := r'.take (r.length + 1)) (n := r.length) (by rw [List.length_take]; omega)
        rw [List.take_take, Nat.min_eq_left (by omega), h4, getD_take (by omega)] at hs2
        rw [hs2] at hs
        rw [hfe, h2]
        exact hs
    · have hn2 : n' = r.length + 1 := by omega
      constructor
      · rintro ⟨p, hp, h⟩
        rw [if_neg h2] at h
        by_cases h3 : (r ++ [p.1]).getD t 0 = p.2
        · rw [if_pos h3, List.mem_singleton] at h
          subst h
          refine ⟨by rw [hn2]; simp, by simp, ?_⟩
          have e1 : (r ++ [p.1]).getD f 0 = p.1 := by rw [hfe]; simp [List.getD_eq_getElem?_getD]
          rw [e1, h3]
          exact hp
        · rw [if_neg h3] at h; simp at h
      · rintro ⟨h3, h4, h5⟩
        refine ⟨_, h5, ?_⟩
        have hs := split_last (h3.trans hn2)
        rw [h4] at hs
        rw [if_neg h2]
        dsimp only
        rw [hfe, ← hs, if_pos rfl]
        exact List.mem_singleton.2 rfl

theorem mem_rows (es : List S82) (ats : List S118) : ∀ (k : Nat), k ≤ ats.length → ∀ rows, allRows (varsOf ats) es (ats.take k) [[]] = some rows →
    ∀ r, r ∈ rows ↔ r.length = (varsOf (ats.take k)).length ∧ ∀ a ∈ ats.take k, edgeAt (varsOf ats) r a ∈ es := by
  intro k
  induction k with
  | zero =>
    intro _ rows h r
    simp only [List.take_zero, allRows] at h
    injection h with h
    subst h
    simp only [List.mem_singleton, List.take_zero, List.not_mem_nil, false_implies, implies_true, and_true]
    constructor
    · rintro rfl; rfl
    · intro h
      exact List.eq_nil_of_length_eq_zero h
  | succ k ih =>
    intro hk rows h r
    have hk' : k < ats.length := by omega
    cases hp : allRows (varsOf ats) es (ats.take k) [[]] with
    | none =>
      rw [List.take_add_one, List.getElem?_eq_getElem hk', allRows_append, hp] at h
      cases h
    | some prev =>
      rw [allRows_succ _ _ _ hk' hp] at h
      split at h
      · injection h with h
        subst h
        obtain ⟨i1, i2, _, i4, i5⟩ := ix_at ats hk'
        have hih := ih (by omega) prev hp
        unfold nextRows
        rw [List.mem_flatMap]
        have hpl := rows_length es ats k (by omega) prev hp
        have htk : ats.take (k + 1) = ats.take k ++ [ats[k]] := by rw [List.take_add_one, List.getElem?_eq_getElem hk']; rfl
        have hearly : ∀ a ∈ ats.take k, ixN (varsOf ats) a.f0 < (varsOf (ats.take k)).length ∧ ixN (varsOf ats) a.f2 < (varsOf (ats.take k)).length := fun a ha => by
          obtain ⟨j, hj, rfl⟩ := List.getElem_of_mem ha
          have hm := vars_mem (ats.take k) hj
          have hpre := varsOf_take_prefix ats k
          rw [idxOf_prefix hpre hm.1, idxOf_prefix hpre hm.2]
          exact ⟨ixN_lt hm.1, ixN_lt hm.2⟩
        constructor
        · rintro ⟨r0, h0, h1⟩
          have hl := hpl r0 h0
          rw [mem_extM _ r0 r _ _ (varsOf (ats.take (k + 1))).length (by omega) (by omega) (by rw [hl]; exact i5) (by rw [hl]; exact i4)] at h1
          obtain ⟨g1, g2, g3⟩ := h1
          refine ⟨g1, fun a ha => ?_⟩
          rw [htk] at ha
          rcases List.mem_append.1 ha with h | h
          · have he := (hih r0).1 h0 |>.2 a h
            obtain ⟨e0, e2⟩ := hearly a h
            unfold edgeAt at he ⊢
            rw [← g2, hl, getD_take e0, getD_take e2] at he
            exact he
          · rw [List.mem_singleton] at h
            subst h
            exact (mem_pairs _ _ _ _).1 g3
        · rintro ⟨g1, g2⟩
          have hlen : (varsOf (ats.take k)).length ≤ r.length := by rw [g1, i4]; omega
          have h0 : r.take (varsOf (ats.take k)).length ∈ prev := by
            refine (hih _).2 ⟨by rw [List.length_take]; omega, fun a ha => ?_⟩
            obtain ⟨e0, e2⟩ := hearly a ha
            have := g2 a (by rw [htk]; exact List.mem_append_left _ ha)
            unfold edgeAt at this ⊢
            rw [getD_take e0, getD_take e2]
            exact this
          refine ⟨_, h0, ?_⟩
          have hl : (r.take (varsOf (ats.take k)).length).length = (varsOf (ats.take k)).length := by rw [List.length_take]; omega
          rw [mem_extM _ _ r _ _ (varsOf (ats.take (k + 1))).length (by omega) (by omega) (by rw [hl]; exact i5) (by rw [hl]; exact i4)]
          refine ⟨g1, by rw [hl], (mem_pairs _ _ _ _).2 ?_⟩
          exact g2 ats[k] (by rw [htk]; exact List.mem_append_right _ (List.mem_singleton.2 rfl))
      · cases h
theorem holdsB_iff (es : List S82) (ats : List S118) (r : List Int) : holdsB es ats r = true ↔ ∀ a ∈ ats, edgeAt (varsOf ats) r a ∈ es := by
  unfold holdsB
  simp only [List.all_eq_true, List.any_eq_true, eqE_iff]
  constructor
  · intro h a ha
    obtain ⟨x, hx, rfl⟩ := h a ha
    exact hx
  · intro h a ha
    exact ⟨_, h a ha, rfl⟩
theorem mem_all_rows {es : List S82} {ats : List S118} {rows : List (List Int)} (h : allRows (varsOf ats) es ats [[]] = some rows) (r : List Int) : r ∈ rows ↔ r.length = (varsOf ats).length ∧ holdsB es ats r = true := by
  have := mem_rows es ats ats.length (Nat.le_refl _) rows (by rw [List.take_length]; exact h) r
  rw [List.take_length] at this
  rw [this, holdsB_iff]
theorem allRows_le (vs : List ByteArray) (es : List S82) : ∀ (ats : List S118) (rows0 rows : List (List Int)), rows0.length ≤ 3000 → allRows vs es ats rows0 = some rows → rows.length ≤ 3000
  | [], rows0, rows, h0, h => by
    simp only [allRows] at h
    injection h with h
    rw [← h]; exact h0
  | a :: ats, rows0, rows, h0, h => by
    simp only [allRows] at h
    split at h
    · exact allRows_le vs es ats _ rows (by assumption) h
    · cases h
end Go.Proofs.Ytcchcifcfcpjiaa.J
