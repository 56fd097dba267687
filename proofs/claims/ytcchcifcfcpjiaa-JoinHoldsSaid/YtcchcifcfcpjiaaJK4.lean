/- What the printed functions compute: the document's Holds, Has. -/
import Derived.Test.YtcchcifcfcpjiaaJK3
import Derived.Test.YtcchcifcfcpjiaaJH2
import Derived.Test.YtcchcifcfcpjiaaPJx13
set_option linter.unusedVariables false
set_option linter.unusedSimpArgs false
namespace Go.Proofs.Ytcchcifcfcpjiaa.J
open Go.RowKit Go.Proofs.YtcchcifcfcpjiaaW.PrintWords Go.Proofs.YtcchcifcfcpjiaaW.PrintLast Go.Proofs.YtcchcifcfcpjiaaW.PrintMore Go.Proofs.Ytcchcifcfcpjiaa.PJ

theorem eqE_iff (x y : S82) : eqE x y = true ↔ x = y := by
  obtain ⟨a, b, c⟩ := x
  obtain ⟨a', b', c'⟩ := y
  unfold eqE
  simp only [Bool.and_eq_true, beq_iff_eq, S82.mk.injEq, bytes_eq]
theorem eqE_comm (x y : S82) : eqE x y = eqE y x := by
  rw [Bool.eq_iff_iff, eqE_iff, eqE_iff]
  exact eq_comm

theorem rhas_ev (rows : List (List Int)) (t : List Int) (hl : rows.length ≤ 1000000) (hr : ∀ r ∈ rows, r.length ≤ 1000000) : ∀ (m i : Nat), rows.length - i = m → i ≤ rows.length → (∀ j (hj : j < i) (h : j < rows.length), rows[j] ≠ t) → Ev (fun k => rhizomeref10_Has.l0 k rows t (rows.length : Int) (i : Int)) (decide (t ∈ rows)) := by
  intro m
  induction m with
  | zero =>
    intro i hm hi hno
    have hie : i = rows.length := by omega
    subst hie
    refine Ev.step (f := fun _ => some false) (fun k => ?_) ?_
    · simp only [rhizomeref10_Has.l0]
      rw [if_neg (by omega)]
    · have : t ∉ rows := fun h => by
        obtain ⟨j, hj, he⟩ := List.getElem_of_mem h
        exact hno j hj hj he
      rw [decide_eq_false this]
      exact Ev.now _
  | succ m ih =>
    intro i hm hi hno
    have hil : i < rows.length := by omega
    have hrd : rd_L4 rows (i : Int) = rows[i] := by
      unfold rd_L4
      simp [List.getD_eq_getElem?_getD, List.getElem?_eq_getElem hil]
    refine Ev.step (f := fun k => (rhizomeref10_Cmp.f k rows[i] t).bind fun t332 => (if t332 = 0 then (some true) else (rhizomeref10_Has.l0 k rows t (rows.length : Int) ((i + 1 : Nat) : Int)))) (fun k => ?_) ?_
    · simp only [rhizomeref10_Has.l0]
      rw [if_pos (by omega), if_pos (by omega), if_pos (by omega), hrd, wrap_succ i rows.length hil (by omega)]
    · refine Ev.bind (refCmp_val rows[i] t (by have := hr rows[i] (List.getElem_mem _); omega)) ?_
      by_cases he : cmpL rows[i] t = 0
      · have hm2 : t ∈ rows := by rw [← cmpL_eq he]; exact List.getElem_mem _
        simp only [if_pos he, decide_eq_true hm2]
        exact Ev.now _
      · simp only [if_neg he]
        exact ih (i + 1) (by omega) (by omega) (fun j hj h => by
          rcases Nat.lt_or_ge j i with h1 | h1
          · exact hno j h1 h
          · have : j = i := by omega
            subst this
            intro h2
            rw [h2, cmpL_refl] at he
            exact he rfl)
theorem rhas_val (rows : List (List Int)) (t : List Int) (hl : rows.length ≤ 1000000) (hr : ∀ r ∈ rows, r.length ≤ 1000000) : Ev (fun k => rhizomeref10_Has.f k rows t) (decide (t ∈ rows)) := rhas_ev rows t hl hr rows.length 0 (by omega) (by omega) (fun j hj => by omega)

section
variable (nm lb : ByteArray) (kd : Int) (out : List ByteArray) (ats : List S118) (es : List S82) (row : List Int)
theorem hl1_ev (hrow : row.length = (varsOf ats).length) (ha : ats.length ≤ 1000) (hel : es.length ≤ 1000) (n : Int) (p : Nat) (a : S118) (hm : a.f0 ∈ varsOf ats ∧ a.f2 ∈ varsOf ats) {r : Bool}
    (hnext : Ev (fun k => rhizomeref11_Holds.l0 k es row (varsOf ats) n (wrap64 ((p : Int) + 1)) nm kd out ats lb) r) : ∀ (m j : Nat) (b : Bool), es.length - j = m → j ≤ es.length →
    Ev (fun k => rhizomeref11_Holds.l1 k es row (varsOf ats) b n (p : Int) (es.length : Int) (j : Int) nm kd out ats lb a.f0 a.f1 a.f2) ((b || (es.drop j).any (eqE (edgeAt (varsOf ats) row a))) && r) := by
  have hvl := varsOf_length ats
  intro m
  induction m with
  | zero =>
    intro j b hmm hj
    have hje : j = es.length := by omega
    subst hje
    rw [List.drop_length]
    refine Ev.step (f := fun k => if b = true then (rhizomeref11_Holds.l0 k es row (varsOf ats) n (wrap64 ((p : Int) + 1)) nm kd out ats lb) else (some false)) (fun k => ?_) ?_
    · simp only [rhizomeref11_Holds.l1]
      rw [if_neg (by omega)]
    · cases b
      · exact Ev.now _
      · simpa using hnext
  | succ m ih =>
    intro j b hmm hj
    have hjl : j < es.length := by omega
    have hdr : es.drop j = es[j] :: es.drop (j + 1) := List.drop_eq_getElem_cons hjl
    have hih := fun b => ih (j + 1) b (by omega) (by omega)
    cases b with
    | true =>
      refine Ev.step (f := fun k => rhizomeref11_Holds.l1 k es row (varsOf ats) true n (p : Int) (es.length : Int) ((j + 1 : Nat) : Int) nm kd out ats lb a.f0 a.f1 a.f2) (fun k => ?_) ?_
      · simp only [rhizomeref11_Holds.l1]
        rw [if_pos (by omega), wrap_succ j es.length hjl (by omega)]
        rfl
      · have := hih true
        simpa using this
    | false =>
      refine Ev.step (f := fun k => (rhizomeref11_at.f k (varsOf ats) a.f0).bind fun t327 => (if 0 ≤ t327 then (if t327 < (row.length : Int) then ((rhizomeref11_at.f k (varsOf ats) a.f2).bind fun t329 => (if 0 ≤ t329 then (if t329 < (row.length : Int) then (rhizomeref11_Holds.l1 k es row (varsOf ats) ((es[j].f0) == (rd row t327) && (((es[j].f1).toList) == a.f1.toList && ((es[j].f2) == (rd row t329)))) n (p : Int) (es.length : Int) ((j + 1 : Nat) : Int) nm kd out ats lb a.f0 a.f1 a.f2) else (none)) else (none))) else (none)) else (none))) (fun k => ?_) ?_
      · simp only [rhizomeref11_Holds.l1]
        rw [if_pos (by omega), wrap_succ j es.length hjl (by omega), rd82_at _ _ hjl]
        simp only [Bool.false_eq_true, if_false]
        rw [if_pos (by omega), if_pos (by omega)]
      · have l0 := ixN_lt hm.1
        have l2 := ixN_lt hm.2
        refine Ev.bind (at_val (varsOf ats) a.f0 (by omega)) ?_
        rw [ixI_mem hm.1]
        simp only [show (0 : Int) ≤ ((ixN (varsOf ats) a.f0 : Nat) : Int) by omega, show ((ixN (varsOf ats) a.f0 : Nat) : Int) < (row.length : Int) by omega, if_true]
        refine Ev.bind (at_val (varsOf ats) a.f2 (by omega)) ?_
        rw [ixI_mem hm.2]
        simp only [show (0 : Int) ≤ ((ixN (varsOf ats) a.f2 : Nat) : Int) by omega, show ((ixN (varsOf ats) a.f2 : Nat) : Int) < (row.length : Int) by omega, if_true]
        have e1 : (es[j].f0 == rd row ((ixN (varsOf ats) a.f0 : Nat) : Int) && (es[j].f1.toList == a.f1.toList && (es[j].f2 == rd row ((ixN (varsOf ats) a.f2 : Nat) : Int)))) = eqE (edgeAt (varsOf ats) row a) es[j] := by
          rw [eqE_comm]
          unfold eqE edgeAt
          simp [rd]
        rw [e1, hdr, List.any_cons, Bool.false_or]
        exact hih _

theorem hl0_ev (hrow : row.length = (varsOf ats).length) (ha : ats.length ≤ 1000) (hel : es.length ≤ 1000) : ∀ (m i : Nat), ats.length - i = m → i ≤ ats.length →
    Ev (fun k => rhizomeref11_Holds.l0 k es row (varsOf ats) (ats.length : Int) (i : Int) nm kd out ats lb) ((ats.drop i).all fun a => es.any (eqE (edgeAt (varsOf ats) row a))) := by
  intro m
  induction m with
  | zero =>
    intro i hm hi
    have hie : i = ats.length := by omega
    subst hie
    rw [List.drop_length]
    refine Ev.step (f := fun _ => some true) (fun k => ?_) (Ev.now _)
    simp only [rhizomeref11_Holds.l0]
    rw [if_neg (by omega)]
  | succ m ih =>
    intro i hm hi
    have hil : i < ats.length := by omega
    have hdr : ats.drop i = ats[i] :: ats.drop (i + 1) := List.drop_eq_getElem_cons hil
    have hih := ih (i + 1) (by omega) (by omega)
    refine Ev.step (f := fun k => rhizomeref11_Holds.l1 k es row (varsOf ats) false (ats.length : Int) (i : Int) (es.length : Int) ((0 : Nat) : Int) nm kd out ats lb ats[i].f0 ats[i].f1 ats[i].f2) (fun k => ?_) ?_
    · simp only [rhizomeref11_Holds.l0]
      rw [if_pos (by omega), if_pos (by omega), if_pos (by omega), rd118_at _ _ hil]
      rfl
    · have := hl1_ev nm lb kd out ats es row hrow ha hel (ats.length : Int) i ats[i] (vars_mem ats hil) (r := (ats.drop (i + 1)).all fun a => es.any (eqE (edgeAt (varsOf ats) row a))) (by rw [wrap_succ i ats.length hil (by omega)]; exact hih) es.length 0 false (by omega) (by omega)
      rw [hdr, List.all_cons]
      simpa using this
theorem rholds_val (ht : TxtOk nm lb ats) (ha : ats.length ≤ 1000) (ho : out.length ≤ 1000) (hel : es.length ≤ 1000) : Ev (fun k => rhizomeref11_Holds.f k nm kd out ats lb es row) ((decide (kd = 1) && checkB nm lb out ats) && (decide (row.length = (varsOf ats).length) && holdsB es ats row)) := by
  have e2 : Ev (fun k => rhizomeref11_Holds.j0 k es row (varsOf ats) true nm kd out ats lb) false := Ev.step (f := fun _ => some false) (fun k => by simp only [rhizomeref11_Holds.j0, if_true]) (Ev.now _)
  unfold rhizomeref11_Holds.f
  refine Ev.bind (rvars_val nm lb kd out ats ha) ?_
  by_cases hk : kd = 1
  · subst hk
    simp only [if_true, decide_true, Bool.true_and]
    refine Ev.bind (good_val nm lb out ats ht ha ho) ?_
    cases checkB nm lb out ats
    · simp only [Bool.false_eq_true, if_false, Bool.false_and]
      exact e2
    · simp only [if_true, Bool.true_and]
      by_cases hl : row.length = (varsOf ats).length
      · have hb : ((row.length : Int) != ((varsOf ats).length : Int)) = false := bne_eq_false_iff_eq.2 (by omega)
        rw [hb, decide_eq_true hl, Bool.true_and]
        refine Ev.step (f := fun k => rhizomeref11_Holds.l0 k es row (varsOf ats) (ats.length : Int) ((0 : Nat) : Int) nm 1 out ats lb) (fun k => ?_) ?_
        · simp only [rhizomeref11_Holds.j0, Bool.false_eq_true, if_false]
          rfl
        · have := hl0_ev nm lb 1 out ats es row hl ha hel ats.length 0 (by omega) (by omega)
          simpa [holdsB] using this
      · have hb : ((row.length : Int) != ((varsOf ats).length : Int)) = true := bne_iff_ne.2 (by omega)
        rw [hb, decide_eq_false hl, Bool.false_and]
        exact e2
  · simp only [if_neg hk, decide_eq_false hk, Bool.false_and]
    exact e2
end
end Go.Proofs.Ytcchcifcfcpjiaa.J
