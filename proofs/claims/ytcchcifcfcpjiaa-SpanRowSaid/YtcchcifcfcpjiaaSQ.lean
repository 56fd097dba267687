/- Adjacency lists: put in order one by one, in a range over the map. -/
import Derived.Test.YtcchcifcfcpjiaaSN
import Derived.Test.YtcchcifcfcpjiaaSP
set_option linter.unusedVariables false
set_option linter.unusedSimpArgs false
namespace Go.Proofs.Ytcchcifcfcpjiaa.J
open Go.RowKit Go.Proofs.YtcchcifcfcpjiaaW.PrintWords Go.Proofs.YtcchcifcfcpjiaaW.PrintLast Go.Proofs.YtcchcifcfcpjiaaW.PrintMore Go.Proofs.Ytcchcifcfcpjiaa.PJ

def norm (xs : List Int) : List Int := Lib.compact (sortI xs)
theorem norm_nil : norm [] = [] := by simp [norm, sortI, Lib.compact, Lib.compactUpTo]
theorem norm_ne {xs : List Int} (h : xs ≠ []) : norm xs ≠ [] := fun e => by
  have hs : sortI xs ≠ [] := fun e2 => h (by
    have := congrArg List.length e2
    simp [sortI] at this
    exact this)
  have h1 : (norm xs).length = 0 := by rw [e]; rfl
  unfold norm Lib.compact Lib.compactUpTo at h1
  rw [List.length_map, List.length_eq_zero_iff, List.filter_eq_nil_iff] at h1
  refine h1 0 (List.mem_range.2 (List.length_pos_iff.2 hs)) ?_
  simp [Lib.keeps]

section
variable {base : Nat} {w w' : World} {M r : Nat} {l : List (Int × Value × Nat)} {c : Nat} {xs : Int → List Int} {seen : Array Nat}
theorem Adj.step (h : Adj base w M l c xs) (hM : w'.heap[M]? = w.heap[M]?) (ho : ∀ a k, (valOf a l).ownBlock = some k → w'.heap[k]? = w.heap[k]?) : Adj base w' M l c xs := by
  obtain ⟨h1, h2, h3, h4, h5, h6⟩ := h
  exact ⟨h1.step hM, h2, h3, h4, fun a => own_move (h5 a) (ho a), h6⟩
/-- Of the range's block only: no slice lies there. -/
theorem Adj.iter (h : Adj base w M l c xs) (hr : RG (.int .i64) w M r l c seen) (hg : w.grownBy w' (some r)) : Adj base w' M l c xs := by
  obtain ⟨since, c0, h1, h2, h3⟩ := hr
  have hne : r ≠ M := fun e => by rw [e, h.1.1] at h2; cases h2
  refine h.step (hg.block M (Array.getElem?_eq_some_iff.1 h.1.1).1 (fun e => hne (by injection e with e; exact e.symm))) (fun a k hk => hg.block k (own_block_lt (h.2.2.2.2.1 a) hk) (fun e => ?_))
  injection e with e
  obtain ⟨cells, hc⟩ := own_typed (h.2.2.2.2.1 a) k hk
  rw [e, h2] at hc
  cases hc
theorem RG.own (h : Adj base w M l c xs) (hr : RG (.int .i64) w M r l c seen) {a : Int} (hg : w.grownBy w' (valOf a l).ownBlock) : RG (.int .i64) w' M r l c seen := by
  refine hr.step (hg.block M hr.lt.1 (fun e => h.ne a e.symm)) (hg.block r hr.lt.2 (fun e => ?_))
  obtain ⟨since, c0, h1, h2, h3⟩ := hr
  obtain ⟨cells, hc⟩ := own_typed (h.2.2.2.2.1 a) r e.symm
  rw [h2] at hc
  cases hc
theorem stamps_putA (k : Int) (v : Value) (c : Nat) : ∀ l : List (Int × Value × Nat), (getA k l).isSome = true → (putA k v c l).map (fun e => (e.1, e.2.2)) = l.map (fun e => (e.1, e.2.2))
  | [], h => by simp [getA_nil] at h
  | e :: l, h => by
    unfold putA
    by_cases hk : k = e.1
    · rw [if_pos hk]
      simp
    · rw [if_neg hk]
      rw [getA_cons, if_neg hk] at h
      simp only [List.map_cons]
      rw [stamps_putA k v c l h]
theorem leftN_eq (l : List (Int × Value × Nat)) (seen : Array Nat) : leftN l seen = ((l.map (fun e => (e.1, e.2.2))).filter (fun p => !seen.contains p.2)).length := by
  unfold leftN
  rw [List.filter_map, List.length_map]
  rfl
theorem getA_of_mem {l : List (Int × Value × Nat)} (hn : (l.map (·.1)).Nodup) {e : Int × Value × Nat} (he : e ∈ l) : getA e.1 l = some e.2.1 := by
  induction l with
  | nil => cases he
  | cons x l ih =>
    rw [getA_cons]
    rw [List.map_cons, List.nodup_cons] at hn
    rcases List.mem_cons.1 he with h | h
    · rw [if_pos (by rw [h]), h]
    · rw [if_neg (fun h2 : e.1 = x.1 => hn.1 (h2 ▸ List.mem_map_of_mem h)), ih hn.2 h]

/-- Where the range stands: what came is put in order. -/
def Half (base : Nat) (w : World) (M r : Nat) (fs : Int → List Int) (g : Nat) : Prop :=
  ∃ l c seen, ∃ done : Int → Bool, RG (.int .i64) w M r l c seen ∧ Adj base w M l c (fun a => if done a then norm (fs a) else fs a) ∧ (∀ e ∈ l, seen.contains e.2.2 = done e.1) ∧ leftN l seen ≤ g

theorem Half.start {fs : Int → List Int} (h : Adj base w M l c fs) (hr : RG (.int .i64) w M r l c #[]) : Half base w M r fs l.length :=
  ⟨l, c, #[], fun _ => false, hr, h.congr (fun a => by simp), fun e he => by simp, List.length_filter_le _ _⟩

/-- One entry comes; its slice is put in order and stored again. -/
theorem half_round {P : Program} {fs : Int → List Int} {g : Nat} (h : Half base w M r fs g) (hl : ∀ a, (fs a).length ≤ 1000000) (ty : TypeId) :
    ((Instr.next (.pointer (some ⟨r, 0, none⟩)) false ty).run P w = .ok (.tuple #[.bool false]) w ∧ ∃ l c, Adj base w M l c (fun a => norm (fs a))) ∨
    ∃ (a : Int) (v : Value) (w1 : World), 0 < g ∧ (Instr.next (.pointer (some ⟨r, 0, none⟩)) false ty).run P w = .ok (.tuple #[.bool true, .int .i64 a, v]) w1 ∧ w.grownBy w1 (some r) ∧
      (Instr.entry (.pointer (some ⟨r, 0, none⟩))).run P w1 = .ok (.tuple #[.int .i64 a, v]) w1 ∧ w1.ownsRow base 3 1 v (fs a).length (nums .i64 (fs a)) ∧
      ∀ w2, w1.grownBy w2 v.ownBlock → ∀ u, w2.ownsRow base 3 1 u (norm (fs a)).length (nums .i64 (norm (fs a))) → u.ownBlock = v.ownBlock →
        ∃ l c, MapIs (.int .i64) w2 M l c ∧ Half base (setB w2 M (.map ((putA a u c l).map (mkE (.int .i64))).toArray (tick a c l))) M r fs (g - 1) := by
  obtain ⟨l, c, seen, done, hR, hA, hD, hg⟩ := h
  have hkey : ∀ a, (getA a l).isSome = true ↔ (if done a then norm (fs a) else fs a) ≠ [] := hA.2.2.2.1
  rcases hR.next (P := P) ty with ⟨h0, hrun⟩ | ⟨x, hx, hs, w1, hrun, hR1, hg1, hsz, hent⟩
  · refine .inl ⟨hrun, l, c, hA.congr (fun a => ?_)⟩
    have hz := leftN_zero h0
    by_cases hm : (getA a l).isSome = true
    · obtain ⟨e, he, rfl⟩ := List.mem_map.1 ((getA_mem a l).1 hm)
      have := hD e he
      rw [hz e he] at this
      rw [← this]; rfl
    · have h1 : (if done a then norm (fs a) else fs a) = [] := Decidable.byContradiction fun h2 => hm ((hkey a).2 h2)
      rw [h1]
      by_cases hd : done a = true
      · rw [if_pos hd] at h1; exact h1.symm
      · rw [if_neg hd] at h1; rw [h1, norm_nil]
  · obtain ⟨a, v, st⟩ := x
    have hd : done a = false := (hD _ hx).symm.trans hs
    have hget : getA a l = some v := getA_of_mem hA.2.2.1 hx
    have hv : valOf a l = v := by unfold valOf; rw [hget]; rfl
    have hA1 := hA.iter hR hg1
    have ho := hA1.2.2.2.2.1 a
    simp only [hd, Bool.false_eq_true, if_false] at ho
    rw [hv] at ho
    have hne : fs a ≠ [] := by
      have := (hkey a).1 (by rw [hget]; rfl)
      simpa [hd] using this
    refine .inr ⟨a, v, w1, by have := leftN_push hx hs; omega, hrun, hg1, hent, ho, fun w2 hg2 u hu hub => ?_⟩
    have hR2 : RG (.int .i64) w2 M r l c (seen.push st) := RG.own hA1 hR1 (a := a) (by rw [hv]; exact hg2)
    have hM2 := hR2.map
    refine ⟨l, c, hM2, putA a u c l, c, seen.push st, fun b => if b = a then true else done b, ?_, ?_, ?_, ?_⟩
    · refine RG.put (w' := _) hR2 (by rw [hget]; rfl) (mapIs_put hM2 a u) ((setB_grown _).block r hR2.lt.2 (fun e => hR2.ne (by injection e)))
    · have := Adj.put (w' := setB w2 M (.map ((putA a u c l).map (mkE (.int .i64))).toArray (tick a c l))) (a0 := a) (u' := u) (ys := norm (fs a)) hA1 (norm_ne hne) hu (by rw [hv]; exact hg2) (.inl (by rw [hv]; exact hub)) (mapIs_put hM2 a u) (setB_grown _)
      have ht : tick a c l = c := by unfold tick; rw [hget]; rfl
      rw [ht] at this ⊢
      refine this.congr (fun b => ?_)
      by_cases hb : b = a
      · subst hb; simp
      · simp [hb]
    · intro e he
      have h1 : (e.1, e.2.2) ∈ l.map (fun e => (e.1, e.2.2)) := by
        rw [← stamps_putA a u c l (by rw [hget]; rfl)]
        exact List.mem_map_of_mem he
      obtain ⟨e', he', h2⟩ := List.mem_map.1 h1
      simp only [Prod.mk.injEq] at h2
      rw [← h2.1, ← h2.2]
      by_cases hs2 : e'.2.2 = st
      · have : e' = (a, v, st) := by
          have hp := hR2.map.2.2
          refine Classical.byContradiction fun hne2 => ?_
          obtain ⟨i, hi, h3⟩ := List.mem_iff_getElem.1 he'
          obtain ⟨j, hj, h4⟩ := List.mem_iff_getElem.1 hx
          have hij : i ≠ j := fun e5 => hne2 (by subst e5; rw [← h3, ← h4])
          rcases Nat.lt_or_gt_of_ne hij with h5 | h5
          · have := List.pairwise_iff_getElem.1 hp i j hi hj h5
            rw [h3, h4] at this
            exact this hs2
          · have := List.pairwise_iff_getElem.1 hp j i hj hi h5
            rw [h3, h4] at this
            exact this hs2.symm
        rw [this]
        simp
      · have hka : e'.1 ≠ a := fun e5 => hs2 (by
          have h3 := getA_of_mem hA.2.2.1 he'
          have hp := hA.2.2.1
          obtain ⟨i, hi, h4⟩ := List.mem_iff_getElem.1 he'
          obtain ⟨j, hj, h5⟩ := List.mem_iff_getElem.1 hx
          have hij : i = j := by
            refine (List.getElem_inj (xs := l.map (·.1)) (i := i) (j := j) (h₀ := by simpa using hi) (h₁ := by simpa using hj) hp).1 ?_
            rw [List.getElem_map, List.getElem_map, h4, h5]; exact e5
          subst hij
          rw [← h4, h5])
        show _ = if e'.1 = a then true else done e'.1
        rw [if_neg hka, ← hD e' he']
        rw [Array.contains_push]
        simp [hs2]
    · rw [leftN_eq, stamps_putA a u c l (by rw [hget]; rfl), ← leftN_eq]
      have := leftN_push hx hs
      simp only at this
      omega
end
end Go.Proofs.Ytcchcifcfcpjiaa.J
