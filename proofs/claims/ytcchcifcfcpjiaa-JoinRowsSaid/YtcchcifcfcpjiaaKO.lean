/- The document's rows of an atom, edge by edge, are join's. Once. Plain lists. -/
import Derived.Test.YtcchcifcfcpjiaaJK
set_option linter.unusedVariables false
set_option linter.unusedSimpArgs false
namespace Go.Proofs.Ytcchcifcfcpjiaa.J
open Go.RowKit Go.Proofs.YtcchcifcfcpjiaaW.PrintWords Go.Proofs.YtcchcifcfcpjiaaW.PrintLast Go.Proofs.YtcchcifcfcpjiaaW.PrintMore Go.Proofs.Ytcchcifcfcpjiaa.PJ

def eqS (x y : S82) : Bool := (x.f0 == y.f0) && ((x.f1.toList == y.f1.toList) && (x.f2 == y.f2))
theorem eqS_iff (x y : S82) : eqS x y = true ↔ x = y := by
  obtain ⟨a, b, c⟩ := x
  obtain ⟨a', b', c'⟩ := y
  unfold eqS
  simp only [Bool.and_eq_true, beq_iff_eq, S82.mk.injEq, bytes_eq]
def onceStep (acc : List S82) (e : S82) : List S82 := if acc.any (fun y => eqS y e) = true then acc else acc ++ [e]
/-- Edges, each once. -/
def onceL (es : List S82) : List S82 := es.foldl onceStep []
theorem any_eqS (acc : List S82) (e : S82) : acc.any (fun y => eqS y e) = true ↔ e ∈ acc := by
  rw [List.any_eq_true]
  constructor
  · rintro ⟨y, hy, h⟩
    rw [eqS_iff] at h
    subst h
    exact hy
  · exact fun h => ⟨e, h, (eqS_iff _ _).2 rfl⟩
theorem onceL_snoc (es : List S82) (e : S82) : onceL (es ++ [e]) = onceStep (onceL es) e := by simp [onceL]
theorem onceL_take (es : List S82) {k : Nat} (hk : k < es.length) : onceL (es.take (k + 1)) = onceStep (onceL (es.take k)) es[k] := by
  rw [List.take_add_one, List.getElem?_eq_getElem hk]
  exact onceL_snoc _ _
theorem onceL_length_take (es : List S82) : ∀ k, k ≤ es.length → (onceL (es.take k)).length ≤ k := by
  intro k
  induction k with
  | zero => intro _; simp [onceL]
  | succ k ih =>
    intro hk
    rw [onceL_take es (by omega)]
    have := ih (by omega)
    unfold onceStep
    split
    · omega
    · rw [List.length_append, List.length_singleton]; omega
theorem onceL_length (es : List S82) : (onceL es).length ≤ es.length := by
  have := onceL_length_take es es.length (Nat.le_refl _)
  rwa [List.take_length] at this

theorem once1_ev (es acc : List S82) (i : Nat) (hi : i < es.length) (hel : es.length ≤ 1000) (hal : acc.length ≤ 1000) {r : List S82} : ∀ (m j : Nat) (b : Bool), acc.length - j = m → j ≤ acc.length →
    Ev (fun k => rhizomeref11_Once.l0 k es (if (b || (acc.drop j).any (fun y => eqS y es[i])) = true then acc else acc ++ [es[i]]) (es.length : Int) ((i + 1 : Nat) : Int)) r →
    Ev (fun k => rhizomeref11_Once.l1 k es acc (i : Int) b (es.length : Int) (i : Int) (acc.length : Int) (j : Int)) r := by
  have hw := wrap_succ i es.length hi (by omega)
  intro m
  induction m with
  | zero =>
    intro j b hm hj h
    have hje : j = acc.length := by omega
    subst hje
    rw [List.drop_length] at h
    simp only [List.any_nil, Bool.or_false] at h
    refine Ev.step (fun k => ?_) h
    have c1 : ¬ (acc.length : Int) < (acc.length : Int) := by omega
    have c2 : (0 : Int) ≤ (i : Int) := by omega
    have c3 : (i : Int) < (es.length : Int) := by omega
    have c4 : acc.length < 4398046511104 := by omega
    cases b <;> simp only [rhizomeref11_Once.l1, c1, c2, c3, c4, if_true, if_false, Bool.false_eq_true, rd82_at es i hi, hw]
  | succ m ih =>
    intro j b hm hj h
    have hjl : j < acc.length := by omega
    have hd : acc.drop j = acc[j] :: acc.drop (j + 1) := List.drop_eq_getElem_cons hjl
    have hw2 := wrap_succ j acc.length hjl (by omega)
    rw [hd, List.any_cons, ← Bool.or_assoc] at h
    refine Ev.step (fun k => ?_) (ih (j + 1) _ (by omega) (by omega) h)
    have c1 : (j : Int) < (acc.length : Int) := by omega
    have c2 : (0 : Int) ≤ (i : Int) := by omega
    have c3 : (i : Int) < (es.length : Int) := by omega
    have c4 : (0 : Int) ≤ (j : Int) := by omega
    cases b
    · simp only [rhizomeref11_Once.l1, c1, c2, c3, c4, if_true, if_false, Bool.false_eq_true, rd82_at es i hi, rd82_at acc j hjl, hw2, Bool.false_or]
      rfl
    · simp only [rhizomeref11_Once.l1, c1, c2, c3, c4, if_true, if_false, Bool.false_eq_true, hw2, Bool.true_or]
theorem once0_ev (es : List S82) (hel : es.length ≤ 1000) : ∀ (m i : Nat), es.length - i = m → i ≤ es.length → Ev (fun k => rhizomeref11_Once.l0 k es (onceL (es.take i)) (es.length : Int) (i : Int)) (onceL es) := by
  intro m
  induction m with
  | zero =>
    intro i hm hi
    have hie : i = es.length := by omega
    subst hie
    rw [List.take_length]
    refine Ev.step (f := fun _ => some (onceL es)) (fun k => ?_) (Ev.now _)
    simp only [rhizomeref11_Once.l0]
    rw [if_neg (by omega)]
  | succ m ih =>
    intro i hm hi
    have hil : i < es.length := by omega
    have hal := onceL_length_take es i hi
    refine Ev.step (f := fun k => rhizomeref11_Once.l1 k es (onceL (es.take i)) (i : Int) false (es.length : Int) (i : Int) ((onceL (es.take i)).length : Int) ((0 : Nat) : Int)) (fun k => ?_) ?_
    · simp only [rhizomeref11_Once.l0]
      rw [if_pos (by omega)]
      rfl
    · refine once1_ev es (onceL (es.take i)) i hil hel (by omega) (onceL (es.take i)).length 0 false (by omega) (by omega) ?_
      have := ih (i + 1) (by omega) (by omega)
      rw [onceL_take es hil] at this
      simpa only [Bool.false_or, List.drop_zero, onceStep] using this
theorem once_val (es : List S82) (hel : es.length ≤ 1000) : Ev (fun k => rhizomeref11_Once.f k es) (onceL es) := once0_ev es hel es.length 0 (by omega) (by omega)

/-- What one edge makes of a row. -/
def refE (f t : Nat) (r : List Int) (q : Int × Int) : List (List Int) :=
  if ((if t = (if f = r.length then r ++ [q.1] else r).length then (if f = r.length then r ++ [q.1] else r) ++ [q.2] else (if f = r.length then r ++ [q.1] else r)).getD f 0 = q.1 ∧
      (if t = (if f = r.length then r ++ [q.1] else r).length then (if f = r.length then r ++ [q.1] else r) ++ [q.2] else (if f = r.length then r ++ [q.1] else r)).getD t 0 = q.2)
  then [if t = (if f = r.length then r ++ [q.1] else r).length then (if f = r.length then r ++ [q.1] else r) ++ [q.2] else (if f = r.length then r ++ [q.1] else r)] else []
def refS (l : ByteArray) (f t : Nat) (r : List Int) (e : S82) : List (List Int) := if e.f1 = l then refE f t r (e.f0, e.f2) else []
/-- What edges make of a row. -/
def refX (es : List S82) (l : ByteArray) (f t : Nat) (r : List Int) : List (List Int) := es.flatMap (refS l f t r)
theorem refX_take (es : List S82) (l : ByteArray) (f t : Nat) (r : List Int) {k : Nat} (hk : k < es.length) : refX (es.take (k + 1)) l f t r = refX (es.take k) l f t r ++ refS l f t r es[k] := by
  unfold refX
  rw [List.take_add_one, List.getElem?_eq_getElem hk, List.flatMap_append]
  simp

theorem pairs_once (l : ByteArray) (es : List S82) : ((onceL es).filter (fun e => decide (e.f1 = l))).map (fun e => (e.f0, e.f2)) = pairsOf es l := by
  have : ∀ k, k ≤ es.length → ((onceL (es.take k)).filter (fun e => decide (e.f1 = l))).map (fun e => (e.f0, e.f2)) = pairsOf (es.take k) l := by
    intro k
    induction k with
    | zero => intro _; simp [onceL, pairsOf]
    | succ k ih =>
      intro hk
      have hk2 : k < es.length := by omega
      have h := ih (by omega)
      rw [onceL_take es hk2, pairsOf_take es l hk2]
      generalize es[k] = e at *
      unfold onceStep pairStep addP
      by_cases hl : e.f1 = l
      · rw [if_pos hl]
        by_cases hm : e ∈ onceL (es.take k)
        · rw [if_pos ((any_eqS _ _).2 hm), h, if_pos]
          rw [← h, List.mem_map]
          exact ⟨e, List.mem_filter.2 ⟨hm, by simpa using hl⟩, rfl⟩
        · rw [if_neg (fun h2 => hm ((any_eqS _ _).1 h2)), List.filter_append, List.map_append, h, if_neg]
          · simp [hl]
          · rw [← h, List.mem_map]
            rintro ⟨y, hy, he⟩
            obtain ⟨hy1, hy2⟩ := List.mem_filter.1 hy
            simp only [decide_eq_true_eq] at hy2
            refine hm ?_
            obtain ⟨y0, y1, y2⟩ := y
            obtain ⟨e0, e1, e2⟩ := e
            simp only [Prod.mk.injEq] at he
            simp only at hl hy2
            obtain ⟨rfl, rfl⟩ := he
            rw [hl, ← hy2]
            exact hy1
      · rw [if_neg hl]
        split
        · exact h
        · rw [List.filter_append, List.map_append, h]
          simp [hl]
  have h := this es.length (Nat.le_refl _)
  rwa [List.take_length] at h
theorem addP_nodup {ps : List (Int × Int)} (h : ps.Nodup) (q : Int × Int) : (addP ps q).Nodup := by
  unfold addP
  split
  · exact h
  · rename_i hq
    rw [List.nodup_append]
    exact ⟨h, by simp, fun a ha b hb => by rw [List.mem_singleton] at hb; subst hb; exact fun e => hq (e ▸ ha)⟩
theorem pairsOf_nodup (es : List S82) (l : ByteArray) : (pairsOf es l).Nodup := by
  have : ∀ (es : List S82) (acc : List (Int × Int)), acc.Nodup → (es.foldl (pairStep l) acc).Nodup := by
    intro es
    induction es with
    | nil => intro acc h; exact h
    | cons e es ih =>
      intro acc h
      refine ih _ ?_
      unfold pairStep
      split
      · exact addP_nodup h _
      · exact h
  exact this es [] List.nodup_nil
theorem refX_pairs (es : List S82) (l : ByteArray) (f t : Nat) (r : List Int) : refX es l f t r = ((es.filter (fun e => decide (e.f1 = l))).map (fun e => (e.f0, e.f2))).flatMap (refE f t r) := by
  unfold refX
  induction es with
  | nil => rfl
  | cons e es ih =>
    rw [List.flatMap_cons, ih, List.filter_cons]
    unfold refS
    by_cases h : e.f1 = l
    · simp [h]
    · simp [h]
theorem getD_append_left (r s : List Int) (i : Nat) (h : i < r.length) : (r ++ s).getD i 0 = r.getD i 0 := by
  rw [List.getD_eq_getElem?_getD, List.getD_eq_getElem?_getD, List.getElem?_append_left h]
theorem getD_append_len (r : List Int) (x : Int) : (r ++ [x]).getD r.length 0 = x := by
  rw [List.getD_eq_getElem?_getD, List.getElem?_append_right (Nat.le_refl _)]
  simp
theorem refE_ext (ps : List (Int × Int)) (r : List Int) (f t : Nat) (hnd : ps.Nodup) (hf : f ≤ r.length) (ht : t ≤ r.length + 1) (hft : f < r.length → t ≤ r.length) : ps.flatMap (refE f t r) = extM ps r f t := by
  unfold extM
  by_cases h1 : f < r.length
  · rw [if_pos h1]
    have hf1 : ¬ f = r.length := by omega
    by_cases h2 : t < r.length
    · rw [if_pos h2]
      have ht1 : ¬ t = r.length := by omega
      have e : ∀ q, refE f t r q = if r.getD f 0 = q.1 ∧ r.getD t 0 = q.2 then [r] else [] := fun q => by simp only [refE, if_neg hf1, if_neg ht1]
      clear hf ht hft
      induction ps with
      | nil => simp
      | cons p ps ih =>
        obtain ⟨hp, hps⟩ := List.nodup_cons.1 hnd
        rw [List.flatMap_cons, ih hps, e]
        by_cases h3 : r.getD f 0 = p.1 ∧ r.getD t 0 = p.2
        · have h4 : (r.getD f 0, r.getD t 0) = p := Prod.ext h3.1 h3.2
          rw [if_pos h3, h4, if_neg hp, if_pos List.mem_cons_self]
          rfl
        · have h4 : (r.getD f 0, r.getD t 0) ≠ p := fun h => h3 (by rw [← h]; exact ⟨rfl, rfl⟩)
          rw [if_neg h3, List.nil_append]
          simp only [List.mem_cons, h4, false_or]
    · rw [if_neg h2]
      have ht1 : t = r.length := by omega
      subst ht1
      have e : ∀ q, refE f r.length r q = if r.getD f 0 = q.1 then [r ++ [q.2]] else [] := fun q => by
        simp only [refE, if_neg hf1, if_true, getD_append_left r _ f h1, getD_append_len, and_true]
      clear hf ht hft hnd
      unfold froms
      induction ps with
      | nil => rfl
      | cons p ps ih =>
        rw [List.flatMap_cons, ih, e, List.filter_cons]
        by_cases h3 : r.getD f 0 = p.1
        · rw [if_pos h3, if_pos (by simpa using h3.symm)]
          rfl
        · have h4 : ¬ p.1 = r.getD f 0 := fun h => h3 h.symm
          rw [if_neg h3, if_neg (by simpa using h4)]
          rfl
  · rw [if_neg h1]
    have hf1 : f = r.length := by omega
    subst hf1
    have e : ∀ q, refE r.length t r q = if t = r.length + 1 then [r ++ [q.1] ++ [q.2]] else if (r ++ [q.1]).getD t 0 = q.2 then [r ++ [q.1]] else [] := fun q => by
      by_cases h3 : t = r.length + 1
      · have hl : (r ++ [q.1]).length = r.length + 1 := by simp
        subst h3
        have g1 : (r ++ [q.1] ++ [q.2]).getD r.length 0 = q.1 := by rw [getD_append_left _ _ _ (by simp), getD_append_len]
        have g2 : (r ++ [q.1] ++ [q.2]).getD (r.length + 1) 0 = q.2 := by rw [← hl, getD_append_len]
        simp only [refE, if_true, hl, g1, g2, and_self]
      · have hl : ¬ t = (r ++ [q.1]).length := by simpa using h3
        simp only [refE, if_true, if_neg hl, if_neg h3, getD_append_len, true_and]
    induction ps with
    | nil => rfl
    | cons p ps ih => rw [List.flatMap_cons, List.flatMap_cons, ih (List.nodup_cons.1 hnd).2, e]
theorem refX_once (es : List S82) (l : ByteArray) (r : List Int) (f t : Nat) (hf : f ≤ r.length) (ht : t ≤ r.length + 1) (hft : f < r.length → t ≤ r.length) : refX (onceL es) l f t r = extM (pairsOf es l) r f t := by
  rw [refX_pairs, pairs_once, refE_ext _ _ _ _ (pairsOf_nodup es l) hf ht hft]
end Go.Proofs.Ytcchcifcfcpjiaa.J
