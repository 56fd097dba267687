/- Patterns: their variables, their rows. Plain lists, no program. -/
import Derived.Test.YtcchcifcfcpjiaaJL
set_option linter.unusedVariables false
set_option linter.unusedSimpArgs false
namespace Go.Proofs.Ytcchcifcfcpjiaa.J
open Go.RowKit Go.Proofs.YtcchcifcfcpjiaaW.PrintWords Go.Proofs.YtcchcifcfcpjiaaW.PrintLast Go.Proofs.YtcchcifcfcpjiaaW.PrintMore Go.Proofs.Ytcchcifcfcpjiaa.PJ

instance memB (x : ByteArray) (vs : List ByteArray) : Decidable (x ∈ vs) := decidable_of_iff (vs.any (fun v => decide (v = x)) = true) (by simp)
def addS (vs : List ByteArray) (x : ByteArray) : List ByteArray := if x ∈ vs then vs else vs ++ [x]
def varStep (vs : List ByteArray) (a : S118) : List ByteArray := addS (addS vs a.f0) a.f2
/-- A pattern's variables. -/
def varsOf (ats : List S118) : List ByteArray := ats.foldl varStep []
/-- Where a variable is. -/
def ixN : List ByteArray → ByteArray → Nat
  | [], _ => 0
  | v :: vs, x => if v = x then 0 else ixN vs x + 1
theorem ixN_lt : ∀ {vs : List ByteArray} {x : ByteArray}, x ∈ vs → ixN vs x < vs.length
  | [], x, h => by simp at h
  | v :: vs, x, h => by
    unfold ixN
    split
    · simp
    · rename_i hne
      rcases List.mem_cons.1 h with h | h
      · exact absurd h.symm hne
      · have := ixN_lt h
        simp only [List.length_cons]
        omega
theorem ixN_append : ∀ {vs t : List ByteArray} {x : ByteArray}, x ∈ vs → ixN (vs ++ t) x = ixN vs x
  | [], t, x, h => by simp at h
  | v :: vs, t, x, h => by
    simp only [List.cons_append, ixN]
    split
    · rfl
    · rename_i hne
      rcases List.mem_cons.1 h with h | h
      · exact absurd h.symm hne
      · rw [ixN_append h]
theorem ixN_new : ∀ {vs : List ByteArray} {x : ByteArray}, x ∉ vs → ixN (vs ++ [x]) x = vs.length
  | [], x, h => by simp [ixN]
  | v :: vs, x, h => by
    have h1 : v ≠ x := fun e => h (by rw [e]; exact List.mem_cons_self)
    have h2 : x ∉ vs := fun e => h (List.mem_cons_of_mem _ e)
    simp only [List.cons_append, ixN, if_neg h1, ixN_new h2, List.length_cons]

theorem addS_prefix (vs : List ByteArray) (x : ByteArray) : vs <+: addS vs x := by
  unfold addS
  split
  · exact List.prefix_rfl
  · exact List.prefix_append _ _
theorem varStep_prefix (vs : List ByteArray) (a : S118) : vs <+: varStep vs a := (addS_prefix vs a.f0).trans (addS_prefix _ _)
theorem foldl_prefix (ats : List S118) : ∀ vs : List ByteArray, vs <+: ats.foldl varStep vs := by
  induction ats with
  | nil => intro vs; exact List.prefix_rfl
  | cons a ats ih => intro vs; exact (varStep_prefix vs a).trans (ih _)
theorem varsOf_take_prefix (ats : List S118) (k : Nat) : varsOf (ats.take k) <+: varsOf ats := by
  have : varsOf ats = (ats.drop k).foldl varStep (varsOf (ats.take k)) := by
    unfold varsOf
    rw [← List.foldl_append, List.take_append_drop]
  rw [this]
  exact foldl_prefix _ _
theorem varsOf_take_succ (ats : List S118) {k : Nat} (hk : k < ats.length) : varsOf (ats.take (k + 1)) = varStep (varsOf (ats.take k)) ats[k] := by
  rw [List.take_add_one, List.getElem?_eq_getElem hk]
  unfold varsOf
  rw [List.foldl_append]
  rfl
theorem mem_addS (vs : List ByteArray) (x y : ByteArray) : y ∈ addS vs x ↔ y ∈ vs ∨ y = x := by
  unfold addS
  split
  · rename_i h
    constructor
    · exact Or.inl
    · rintro (h1 | rfl)
      · exact h1
      · exact h
  · rw [List.mem_append, List.mem_singleton]
theorem idxOf_prefix {vs ws : List ByteArray} (h : vs <+: ws) {x : ByteArray} (hx : x ∈ vs) : ixN ws x = ixN vs x := by
  obtain ⟨t, rfl⟩ := h
  exact ixN_append hx
theorem ix_addS (vs : List ByteArray) (x : ByteArray) : ixN (addS vs x) x = if x ∈ vs then ixN vs x else vs.length := by
  unfold addS
  split
  · rfl
  · rename_i h
    exact ixN_new h
theorem length_addS (vs : List ByteArray) (x : ByteArray) : (addS vs x).length = if x ∈ vs then vs.length else vs.length + 1 := by
  unfold addS
  split <;> simp
/-- Where an atom's variables are: known, or next. -/
theorem ix_at (ats : List S118) {k : Nat} (hk : k < ats.length) :
    ixN (varsOf ats) ats[k].f0 ≤ (varsOf (ats.take k)).length ∧ ixN (varsOf ats) ats[k].f2 ≤ (varsOf (ats.take k)).length + 1 ∧
    (ixN (varsOf ats) ats[k].f0 < (varsOf (ats.take k)).length ↔ ats[k].f0 ∈ varsOf (ats.take k)) ∧
    (varsOf (ats.take (k + 1))).length = max (varsOf (ats.take k)).length (max (ixN (varsOf ats) ats[k].f0 + 1) (ixN (varsOf ats) ats[k].f2 + 1)) ∧
    (ixN (varsOf ats) ats[k].f0 < (varsOf (ats.take k)).length → ixN (varsOf ats) ats[k].f2 ≤ (varsOf (ats.take k)).length) := by
  have hp := varsOf_take_prefix ats (k + 1)
  rw [varsOf_take_succ ats hk] at hp ⊢
  generalize varsOf (ats.take k) = vs at *
  generalize ats[k] = a at *
  have m0 : a.f0 ∈ varStep vs a := (mem_addS _ _ _).2 (.inl ((mem_addS _ _ _).2 (.inr rfl)))
  have m2 : a.f2 ∈ varStep vs a := (mem_addS _ _ _).2 (.inr rfl)
  rw [idxOf_prefix hp m0, idxOf_prefix hp m2]
  have e0 : ixN (varStep vs a) a.f0 = ixN (addS vs a.f0) a.f0 := idxOf_prefix (addS_prefix _ _) ((mem_addS _ _ _).2 (.inr rfl))
  rw [e0, ix_addS]
  have lt : ∀ {ws : List ByteArray} {x}, x ∈ ws → ixN ws x < ws.length := fun h => ixN_lt h
  unfold varStep
  rw [ix_addS (addS vs a.f0) a.f2, length_addS (addS vs a.f0) a.f2]
  by_cases h0 : a.f0 ∈ vs
  · have l0 := lt h0
    rw [if_pos h0]
    have ea : addS vs a.f0 = vs := by unfold addS; rw [if_pos h0]
    rw [ea]
    by_cases h2 : a.f2 ∈ vs
    · have l2 := lt h2
      rw [if_pos h2, if_pos h2]
      refine ⟨by omega, by omega, ⟨fun _ => h0, fun _ => l0⟩, by omega, fun _ => by omega⟩
    · rw [if_neg h2, if_neg h2]
      refine ⟨by omega, by omega, ⟨fun _ => h0, fun _ => l0⟩, by omega, fun _ => by omega⟩
  · rw [if_neg h0]
    have ea : addS vs a.f0 = vs ++ [a.f0] := by unfold addS; rw [if_neg h0]
    rw [ea]
    by_cases h2 : a.f2 ∈ vs ++ [a.f0]
    · have l2 := lt h2
      rw [List.length_append, List.length_singleton] at l2
      rw [if_pos h2, if_pos h2, List.length_append, List.length_singleton]
      refine ⟨by omega, by omega, ⟨fun h => by omega, fun h => absurd h h0⟩, by omega, fun h => by omega⟩
    · rw [if_neg h2, if_neg h2, List.length_append, List.length_singleton]
      refine ⟨by omega, by omega, ⟨fun h => by omega, fun h => absurd h h0⟩, by omega, fun h => by omega⟩

theorem vars_mem (ats : List S118) {k : Nat} (hk : k < ats.length) : ats[k].f0 ∈ varsOf ats ∧ ats[k].f2 ∈ varsOf ats := by
  have hp := varsOf_take_prefix ats (k + 1)
  rw [varsOf_take_succ ats hk] at hp
  exact ⟨hp.subset ((mem_addS _ _ _).2 (.inl ((mem_addS _ _ _).2 (.inr rfl)))), hp.subset ((mem_addS _ _ _).2 (.inr rfl))⟩
/-- The rows with an atom more. -/
def nextRows (vs : List ByteArray) (es : List S82) (a : S118) (rows : List (List Int)) : List (List Int) := rows.flatMap fun r => extM (pairsOf es a.f1) r (ixN vs a.f0) (ixN vs a.f2)
/-- The rows atom by atom; none where they are too many. -/
def allRows (vs : List ByteArray) (es : List S82) : List S118 → List (List Int) → Option (List (List Int))
  | [], rows => some rows
  | a :: ats, rows => if (nextRows vs es a rows).length ≤ 3000 then allRows vs es ats (nextRows vs es a rows) else none
theorem allRows_append (vs : List ByteArray) (es : List S82) : ∀ (ats bs : List S118) (rows : List (List Int)), allRows vs es (ats ++ bs) rows = (allRows vs es ats rows).bind (allRows vs es bs)
  | [], bs, rows => rfl
  | a :: ats, bs, rows => by
    simp only [List.cons_append, allRows]
    split
    · exact allRows_append vs es ats bs _
    · rfl
theorem allRows_succ (vs : List ByteArray) (es : List S82) (ats : List S118) {k : Nat} (hk : k < ats.length) {rows : List (List Int)} (h : allRows vs es (ats.take k) [[]] = some rows) :
    allRows vs es (ats.take (k + 1)) [[]] = if (nextRows vs es ats[k] rows).length ≤ 3000 then some (nextRows vs es ats[k] rows) else none := by
  rw [List.take_add_one, List.getElem?_eq_getElem hk, allRows_append, h]
  rfl
/-- From some place on they are too many: they stay so. -/
theorem allRows_none (vs : List ByteArray) (es : List S82) (ats : List S118) {k : Nat} (h : allRows vs es (ats.take k) [[]] = none) : allRows vs es ats [[]] = none := by
  rw [← List.take_append_drop k ats, allRows_append, h]
  rfl
theorem extM_length (ps : List (Int × Int)) (r : List Int) (f t n : Nat) (hf : f ≤ r.length) (ht : t ≤ r.length + 1) (hft : f < r.length → t ≤ r.length) (hn : n = max r.length (max (f + 1) (t + 1))) : ∀ x ∈ extM ps r f t, x.length = n := by
  intro x hx
  unfold extM at hx
  split at hx
  · split at hx
    · split at hx
      · rw [List.mem_singleton] at hx; subst hx; omega
      · simp at hx
    · obtain ⟨b, _, rfl⟩ := List.mem_map.1 hx
      have := hft (by assumption)
      rw [List.length_append, List.length_singleton]
      omega
  · obtain ⟨p, _, hp⟩ := List.mem_flatMap.1 hx
    split at hp
    · rw [List.mem_singleton] at hp; subst hp
      simp
      omega
    · split at hp
      · rw [List.mem_singleton] at hp; subst hp
        simp
        omega
      · simp at hp
theorem rows_length (es : List S82) (ats : List S118) : ∀ (k : Nat), k ≤ ats.length → ∀ rows, allRows (varsOf ats) es (ats.take k) [[]] = some rows → ∀ r ∈ rows, r.length = (varsOf (ats.take k)).length := by
  intro k
  induction k with
  | zero =>
    intro _ rows h r hr
    simp only [List.take_zero, allRows] at h
    injection h with h
    subst h
    rw [List.mem_singleton] at hr
    subst hr
    rfl
  | succ k ih =>
    intro hk rows h r hr
    have hk' : k < ats.length := by omega
    cases hp : allRows (varsOf ats) es (ats.take k) [[]] with
    | none =>
      rw [List.take_add_one, List.getElem?_eq_getElem hk', allRows_append, hp] at h
      cases h
    | some prev =>
      rw [allRows_succ _ _ _ hk' hp] at h
      split at h
      · injection h with h
        subst h
        obtain ⟨r0, h0, h1⟩ := List.mem_flatMap.1 hr
        have hl := ih (by omega) prev hp r0 h0
        obtain ⟨i1, i2, _, i4, i5⟩ := ix_at ats hk'
        refine extM_length _ r0 _ _ _ (by omega) (by omega) (by rw [hl]; exact i5) (by rw [hl]; exact i4) r h1
      · cases h
theorem varsOf_length (ats : List S118) : (varsOf ats).length ≤ 2 * ats.length := by
  have : ∀ (ats : List S118) (vs : List ByteArray), (ats.foldl varStep vs).length ≤ vs.length + 2 * ats.length := by
    intro ats
    induction ats with
    | nil => intro vs; simp
    | cons a ats ih =>
      intro vs
      have h1 := ih (varStep vs a)
      have h2 : (varStep vs a).length ≤ vs.length + 2 := by
        unfold varStep
        rw [length_addS, length_addS]
        split <;> split <;> omega
      simp only [List.foldl_cons, List.length_cons]
      omega
  simpa [varsOf] using this ats []
end Go.Proofs.Ytcchcifcfcpjiaa.J
