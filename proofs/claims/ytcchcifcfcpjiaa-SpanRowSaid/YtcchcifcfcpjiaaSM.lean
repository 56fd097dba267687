/- A range over a map that is known by its entries. -/
import Derived.Test.YtcchcifcfcpjiaaJN
import Derived.Maps.Range
set_option linter.unusedVariables false
set_option linter.unusedSimpArgs false
namespace Go.Proofs.Ytcchcifcfcpjiaa.J
open Go.RowKit Go.ChangeMaps Go.MapKept Go.Proofs.YtcchcifcfcpjiaaW.PrintWords Go.Proofs.YtcchcifcfcpjiaaW.PrintLast Go.Proofs.YtcchcifcfcpjiaaW.PrintMore Go.Proofs.Ytcchcifcfcpjiaa.PJ

section
variable {κ : Type} {enc : κ → Value} {P : Program} {t e : TypeId} {T : TypeId} {w : World} {b r : Nat} {l : List (κ × Value × Nat)} {clock : Nat} {seen : Array Nat}

/-- The map in block b is being ranged over, by block r; seen: the stamps that came. -/
def RG (enc : κ → Value) (w : World) (b r : Nat) (l : List (κ × Value × Nat)) (clock : Nat) (seen : Array Nat) : Prop :=
  ∃ since c0, MapIs enc w b l clock ∧ w.heap[r]? = some (.mapIter (some b) since seen c0) ∧ (∀ e ∈ l, e.2.2 < since) ∧ since ≤ c0 ∧ since ≤ clock
/-- How many are to come. -/
def leftN (l : List (κ × Value × Nat)) (seen : Array Nat) : Nat := (l.filter (fun e => !seen.contains e.2.2)).length

theorem RG.map (h : RG enc w b r l clock seen) : MapIs enc w b l clock := by
  obtain ⟨_, _, h, _⟩ := h
  exact h
theorem RG.ne (h : RG enc w b r l clock seen) : r ≠ b := fun e => by
  obtain ⟨since, c0, h1, h2, _⟩ := h
  subst e
  rw [h1.1] at h2
  cases h2
theorem RG.step {w' : World} (h : RG enc w b r l clock seen) (hb : w'.heap[b]? = w.heap[b]?) (hr : w'.heap[r]? = w.heap[r]?) : RG enc w' b r l clock seen := by
  obtain ⟨since, c0, h1, h2, h3⟩ := h
  exact ⟨since, c0, h1.step hb, hr.trans h2, h3⟩
theorem RG.lt (h : RG enc w b r l clock seen) : b < w.heap.size ∧ r < w.heap.size := by
  obtain ⟨since, c0, h1, h2, h3⟩ := h
  exact ⟨(Array.getElem?_eq_some_iff.1 h1.1).1, (Array.getElem?_eq_some_iff.1 h2).1⟩

theorem run_range_my (hT : P.underlying T = some (.map t e)) (hM : MapIs enc w b l clock) : ∃ w', (Instr.range T (.map (some b))).run P w = .ok (.pointer (some ⟨w.heap.size, 0, none⟩)) w' ∧ RG enc w' b w.heap.size l clock #[] ∧ Below w.heap.size w w' ∧ w'.heap.size = w.heap.size + 1 := by
  have hlt := (Array.getElem?_eq_some_iff.1 hM.1).1
  refine ⟨_, run_range_map w T t e b _ clock hT hM.1, ⟨clock, clock, hM.step ((MapKept.heap_alloc w _).2 b hlt), (MapKept.heap_alloc w _).1, hM.2.1, Nat.le_refl _, Nat.le_refl _⟩, (Below.refl _ _).alloc (Nat.le_refl _) _, by simp⟩

theorem leftN_zero {l : List (κ × Value × Nat)} {seen : Array Nat} (h : leftN l seen = 0) : ∀ e ∈ l, seen.contains e.2.2 = true := fun e he => by
  unfold leftN at h
  have h1 := List.eq_nil_of_length_eq_zero h
  have h2 := List.filter_eq_nil_iff.1 h1 e he
  simpa using h2
theorem leftN_push {l : List (κ × Value × Nat)} {seen : Array Nat} {e : κ × Value × Nat} (he : e ∈ l) (hs : seen.contains e.2.2 = false) : leftN l (seen.push e.2.2) < leftN l seen := by
  unfold leftN
  have h1 : (l.filter (fun x => !(seen.push e.2.2).contains x.2.2)) = (l.filter (fun x => !seen.contains x.2.2)).filter (fun x => decide (x.2.2 ≠ e.2.2)) := by
    rw [List.filter_filter]
    congr 1
    funext x
    rw [Bool.eq_iff_iff]
    simp
    exact and_comm
  rw [h1]
  have h2 : e ∈ l.filter (fun x => !seen.contains x.2.2) := List.mem_filter.2 ⟨he, by rw [hs]; rfl⟩
  exact List.length_filter_lt_length_iff_exists.2 ⟨e, h2, by simp⟩

theorem RG.next (h : RG enc w b r l clock seen) (ty : TypeId) :
    (leftN l seen = 0 ∧ (Instr.next (.pointer (some ⟨r, 0, none⟩)) false ty).run P w = .ok (.tuple #[.bool false]) w) ∨
    ∃ e ∈ l, seen.contains e.2.2 = false ∧ ∃ w', (Instr.next (.pointer (some ⟨r, 0, none⟩)) false ty).run P w = .ok (.tuple #[.bool true, enc e.1, e.2.1]) w' ∧ RG enc w' b r l clock (seen.push e.2.2) ∧ w.grownBy w' (some r) ∧ w'.heap.size = w.heap.size ∧
      (Instr.entry (.pointer (some ⟨r, 0, none⟩))).run P w' = .ok (.tuple #[enc e.1, e.2.1]) w' := by
  have hne := h.ne
  obtain ⟨since, c0, hM, hr, hold, hsc, hsk⟩ := h
  have hold' : ∀ x ∈ ((l.map (mkE enc)).toArray).toList, x.born < since := fun x hx => by
    simp only [List.mem_map] at hx
    obtain ⟨y, hy, rfl⟩ := hx
    exact hold y hy
  have hleft : leftOf (l.map (mkE enc)).toArray seen = ((l.filter (fun e => !seen.contains e.2.2)).map (mkE enc)).toArray := by
    unfold leftOf
    rw [List.filter_toArray, List.filter_map]
    rfl
  rcases run_next_at (P := P) w ty r b since c0 seen _ clock hr hM.1 hold' hsc with ⟨h0, hrun⟩ | ⟨x, hx, w1, hal, hrun⟩
  · refine .inl ⟨?_, hrun⟩
    rw [hleft] at h0
    simpa [leftN] using h0
  · rw [hleft] at hx
    simp only [List.mem_map] at hx
    obtain ⟨y, hy, rfl⟩ := hx
    obtain ⟨hy1, hy2⟩ := List.mem_filter.1 hy
    have hr1 : w1.heap[r]? = some (.mapIter (some b) since seen c0) := by rcases hal with rfl | rfl <;> exact hr
    have hb1 : w1.heap[b]? = w.heap[b]? := by rcases hal with rfl | rfl <;> rfl
    have hset := heap_set (o' := .mapIter (some b) since (seen.push y.2.2) clock) hr1
    have hb' : (setBlock w1 r (.mapIter (some b) since (seen.push y.2.2) clock)).heap[b]? = w.heap[b]? := (hset.2 b (fun e1 => hne e1.symm)).trans hb1
    refine .inr ⟨y, hy1, by simpa using hy2, _, hrun, ⟨since, clock, hM.step hb', hset.1, hold, hsk, hsk⟩, ?_, ?_, ?_⟩
    · rcases hal with rfl | rfl <;> exact ⟨rfl, rfl, rfl, by simp [setBlock], fun i _ hi => hset.2 i (fun e1 => hi (by rw [e1]))⟩
    · rcases hal with rfl | rfl <;> simp [setBlock]
    · refine run_entry_at _ r b since seen _ clock (mkE enc y) hset.1 (hb'.trans hM.1) (by simp only [List.mem_map]; exact ⟨y, hy1, rfl⟩) ?_
      simp only [List.map_map]
      have := hM.2.2
      rw [List.nodup_iff_pairwise_ne, List.pairwise_map]
      exact this

/-- At the operations, for the walk. -/
theorem wpList_range_my {ops : Array Oper} {rest : List Oper} {o : Oper} {a : Act} {Q : Exit → Act → World → Prop} (hg : o.guard = none) (m : Operand) (hop : o.op = Op.range T m)
    (hT : P.underlying T = some (.map t e)) (hm : a.eval m = .map (some b)) (hM : MapIs enc w b l clock)
    (hK : ∀ w', RG enc w' b w.heap.size l clock #[] → Below w.heap.size w w' → w'.heap.size = w.heap.size + 1 → wpList P ops Q rest (a.put o.dst (.pointer (some ⟨w.heap.size, 0, none⟩))) w') : wpList P ops Q (o :: rest) a w := by
  refine wpList_plain hg fun K' hK' => ?_
  obtain ⟨w', hrun, h1, h2, h3⟩ := run_range_my (P := P) hT hM
  unfold Oper.wp
  simp [execOp, hop, hm, hrun, Result.andThen]
  exact hK' _ _ (hK w' h1 h2 h3)
theorem wpList_next_my {ops : Array Oper} {rest : List Oper} {o : Oper} {a : Act} {Q : Exit → Act → World → Prop} (hg : o.guard = none) (it : Operand) (hop : o.op = Op.next it false)
    (hit : a.eval it = .pointer (some ⟨r, 0, none⟩)) (h : RG enc w b r l clock seen)
    (hDone : leftN l seen = 0 → wpList P ops Q rest (a.put o.dst (.tuple #[.bool false])) w)
    (hMore : ∀ e ∈ l, seen.contains e.2.2 = false → ∀ w', RG enc w' b r l clock (seen.push e.2.2) → w.grownBy w' (some r) → w'.heap.size = w.heap.size → (Instr.entry (.pointer (some ⟨r, 0, none⟩))).run P w' = .ok (.tuple #[enc e.1, e.2.1]) w' → wpList P ops Q rest (a.put o.dst (.tuple #[.bool true, enc e.1, e.2.1])) w') : wpList P ops Q (o :: rest) a w := by
  refine wpList_plain hg fun K' hK' => ?_
  unfold Oper.wp
  rcases h.next (P := P) o.type with ⟨h0, hrun⟩ | ⟨x, hx, hs, w', hrun, h1, h2, h3, h4⟩
  · simp [execOp, hop, hit, hrun, Result.andThen]
    exact hK' _ _ (hDone h0)
  · simp [execOp, hop, hit, hrun, Result.andThen]
    exact hK' _ _ (hMore x hx hs w' h1 h2 h3 h4)
/-- A key that is there gets another value: the range goes on. -/
theorem RG.put [DecidableEq κ] {w' : World} (h : RG enc w b r l clock seen) {k : κ} {v : Value} (hk : (getA k l).isSome = true) (hM : MapIs enc w' b (putA k v clock l) (tick k clock l)) (hr : w'.heap[r]? = w.heap[r]?) : RG enc w' b r (putA k v clock l) clock seen := by
  obtain ⟨since, c0, h1, h2, h3, h4, h5⟩ := h
  have ht : tick k clock l = clock := by unfold tick; rw [if_pos hk]
  rw [ht] at hM
  refine ⟨since, c0, hM, hr.trans h2, fun e he => ?_, h4, h5⟩
  obtain ⟨⟨i, u⟩, hf⟩ : ∃ p, findA k l 0 = some p := by
    unfold getA at hk
    cases hq : findA k l 0 with
    | none => rw [hq] at hk; cases hk
    | some p => exact ⟨p, rfl⟩
  obtain ⟨e0, he0, _, _, hp⟩ := putA_some (v := v) (c := clock) hf
  rw [hp] at he
  rcases List.mem_or_eq_of_mem_set he with h | h
  · exact h3 e h
  · rw [h]
    exact h3 e0 (List.mem_of_getElem? he0)
end
end Go.Proofs.Ytcchcifcfcpjiaa.J
