/- What the printed functions compute: variables, Check, Good. -/
import Derived.Test.YtcchcifcfcpjiaaJK
set_option linter.unusedVariables false
set_option linter.unusedSimpArgs false
namespace Go.Proofs.Ytcchcifcfcpjiaa.J
open Go.RowKit Go.Proofs.YtcchcifcfcpjiaaW.PrintWords Go.Proofs.YtcchcifcfcpjiaaW.PrintLast Go.Proofs.YtcchcifcfcpjiaaW.PrintMore Go.Proofs.Ytcchcifcfcpjiaa.PJ

theorem qvars1_ev (vs : List ByteArray) (ats : List S118) (n i : Int) (y : List ByteArray) (hy : y.length ≤ 1000) (hv : vs.length ≤ 1000000) (j : Nat) (hj : j < y.length) {r : List ByteArray}
    (h : Ev (fun k => query_Vars.l1 k (addS vs y[j]) ats n i y (y.length : Int) ((j + 1 : Nat) : Int)) r) : Ev (fun k => query_Vars.l1 k vs ats n i y (y.length : Int) (j : Int)) r := by
  refine Ev.step (f := fun k => (slices_Contains_string_string.f k vs y[j]).bind fun t110 => (if t110 = true then (query_Vars.l1 k vs ats n i y (y.length : Int) ((j + 1 : Nat) : Int)) else (query_Vars.l1 k (vs ++ [y[j]]) ats n i y (y.length : Int) ((j + 1 : Nat) : Int)))) (fun k => ?_) ?_
  · simp only [query_Vars.l1]
    rw [if_pos (by omega), if_pos (by omega), if_pos (by omega), rdOf_at _ _ hj, wrap_succ j y.length hj (by omega), if_pos (show vs.length < 8796093022208 by omega)]
  · refine Ev.bind (contains_val vs y[j] hv) ?_
    unfold addS at h
    by_cases hm : y[j] ∈ vs
    · rw [if_pos hm] at h
      simp only [decide_eq_true hm, if_true]
      exact h
    · rw [if_neg hm] at h
      simp only [decide_eq_false hm, Bool.false_eq_true, if_false]
      exact h

theorem qvars_ev (ats : List S118) (hl : ats.length ≤ 1000) : ∀ (m i : Nat), ats.length - i = m → i ≤ ats.length → Ev (fun k => query_Vars.l0 k (varsOf (ats.take i)) ats (ats.length : Int) (i : Int)) (varsOf ats) := by
  intro m
  induction m with
  | zero =>
    intro i hm hi
    have hie : i = ats.length := by omega
    subst hie
    refine Ev.step (f := fun _ => some (varsOf (ats.take ats.length))) (fun k => ?_) ?_
    · simp only [query_Vars.l0]
      rw [if_neg (by omega)]
    · rw [List.take_length]
      exact Ev.now _
  | succ m ih =>
    intro i hm hi
    have hil : i < ats.length := by omega
    have hvl := varsOf_length (ats.take i)
    rw [List.length_take] at hvl
    have hal := length_addS (varsOf (ats.take i)) ats[i].f0
    refine Ev.step (f := fun k => query_Vars.l1 k (varsOf (ats.take i)) ats (ats.length : Int) (i : Int) [ats[i].f0, ats[i].f2] (([ats[i].f0, ats[i].f2] : List ByteArray).length : Int) ((0 : Nat) : Int)) (fun k => ?_) ?_
    · simp only [query_Vars.l0]
      rw [if_pos (by omega), if_pos (by omega), if_pos (by omega), rd118_at _ _ hil]
      rfl
    · refine qvars1_ev _ ats _ _ _ (by simp) (by omega) 0 (by simp) ?_
      refine qvars1_ev _ ats _ _ _ (by simp) (by show (addS (varsOf (ats.take i)) ats[i].f0).length ≤ 1000000; rw [hal]; split <;> omega) 1 (by simp) ?_
      refine Ev.step (f := fun k => query_Vars.l0 k (varsOf (ats.take (i + 1))) ats (ats.length : Int) ((i + 1 : Nat) : Int)) (fun k => ?_) (ih (i + 1) (by omega) (by omega))
      simp only [query_Vars.l1]
      rw [if_neg (by simp), wrap_succ i ats.length hil (by omega), varsOf_take_succ ats hil]
      rfl
theorem qvars_val (nm lb : ByteArray) (kd : Int) (out : List ByteArray) (ats : List S118) (hl : ats.length ≤ 1000) : Ev (fun k => query_Vars.f k nm kd out ats lb) (varsOf ats) := qvars_ev ats hl ats.length 0 (by omega) (by omega)

theorem rvars_ev (nm lb : ByteArray) (kd : Int) (out : List ByteArray) (ats : List S118) (hl : ats.length ≤ 1000) : ∀ (m i : Nat), ats.length - i = m → i ≤ ats.length → Ev (fun k => rhizomeref09_Vars.l0 k (varsOf (ats.take i)) (ats.length : Int) (i : Int) nm kd out ats lb) (varsOf ats) := by
  intro m
  induction m with
  | zero =>
    intro i hm hi
    have hie : i = ats.length := by omega
    subst hie
    refine Ev.step (f := fun _ => some (varsOf (ats.take ats.length))) (fun k => ?_) ?_
    · simp only [rhizomeref09_Vars.l0]
      rw [if_neg (by omega)]
    · rw [List.take_length]
      exact Ev.now _
  | succ m ih =>
    intro i hm hi
    have hil : i < ats.length := by omega
    have hvl := varsOf_length (ats.take i)
    rw [List.length_take] at hvl
    have hih := ih (i + 1) (by omega) (by omega)
    rw [varsOf_take_succ ats hil] at hih
    generalize varsOf (ats.take i) = vs at *
    have key : ∀ ws : List ByteArray, ws.length ≤ 1000000 → Ev (fun k => rhizomeref09_Vars.l0 k (addS ws ats[i].f2) (ats.length : Int) ((i + 1 : Nat) : Int) nm kd out ats lb) (varsOf ats) → Ev (fun k => (rhizomeref09_has.f k ws (rd_T118 ats (i : Int)).f2).bind fun t => (if t = true then (rhizomeref09_Vars.l0 k ws (ats.length : Int) (wrap64 ((i : Int) + 1)) nm kd out ats lb) else (if ws.length < 8796093022208 then (rhizomeref09_Vars.l0 k (ws ++ [(rd_T118 ats (i : Int)).f2]) (ats.length : Int) (wrap64 ((i : Int) + 1)) nm kd out ats lb) else none))) (varsOf ats) := by
      intro ws hws h
      rw [rd118_at _ _ hil, wrap_succ i ats.length hil (by omega)]
      refine Ev.bind (has_val ws ats[i].f2 hws) ?_
      unfold addS at h
      by_cases hm : ats[i].f2 ∈ ws
      · rw [if_pos hm] at h
        simp only [decide_eq_true hm, if_true]
        exact h
      · rw [if_neg hm] at h
        simp only [decide_eq_false hm, Bool.false_eq_true, if_false]
        simp only [show ws.length < 8796093022208 by omega, if_true]
        exact h
    refine Ev.step (f := fun k => (rhizomeref09_has.f k vs ats[i].f0).bind fun t157 => (if t157 = true then ((rhizomeref09_has.f k vs (rd_T118 ats (i : Int)).f2).bind fun t => (if t = true then (rhizomeref09_Vars.l0 k vs (ats.length : Int) (wrap64 ((i : Int) + 1)) nm kd out ats lb) else (if vs.length < 8796093022208 then (rhizomeref09_Vars.l0 k (vs ++ [(rd_T118 ats (i : Int)).f2]) (ats.length : Int) (wrap64 ((i : Int) + 1)) nm kd out ats lb) else none))) else ((rhizomeref09_has.f k (vs ++ [ats[i].f0]) (rd_T118 ats (i : Int)).f2).bind fun t => (if t = true then (rhizomeref09_Vars.l0 k (vs ++ [ats[i].f0]) (ats.length : Int) (wrap64 ((i : Int) + 1)) nm kd out ats lb) else (if (vs ++ [ats[i].f0]).length < 8796093022208 then (rhizomeref09_Vars.l0 k ((vs ++ [ats[i].f0]) ++ [(rd_T118 ats (i : Int)).f2]) (ats.length : Int) (wrap64 ((i : Int) + 1)) nm kd out ats lb) else none))))) (fun k => ?_) ?_
    · simp only [rhizomeref09_Vars.l0]
      rw [if_pos (by omega), if_pos (by omega), if_pos (by omega), rd118_at _ _ hil]
      simp only [show vs.length < 8796093022208 by omega, if_true, Option.bind_some]
    · refine Ev.bind (has_val vs ats[i].f0 (by omega)) ?_
      unfold varStep at hih
      by_cases hm : ats[i].f0 ∈ vs
      · have e : addS vs ats[i].f0 = vs := by unfold addS; rw [if_pos hm]
        rw [e] at hih
        simp only [decide_eq_true hm, if_true]
        exact key vs (by omega) hih
      · have e : addS vs ats[i].f0 = vs ++ [ats[i].f0] := by unfold addS; rw [if_neg hm]
        rw [e] at hih
        simp only [decide_eq_false hm, Bool.false_eq_true, if_false]
        exact key (vs ++ [ats[i].f0]) (by rw [List.length_append, List.length_singleton]; omega) hih
theorem rvars_val (nm lb : ByteArray) (kd : Int) (out : List ByteArray) (ats : List S118) (hl : ats.length ≤ 1000) : Ev (fun k => rhizomeref09_Vars.f k nm kd out ats lb) (varsOf ats) := rvars_ev nm lb kd out ats hl ats.length 0 (by omega) (by omega)
end Go.Proofs.Ytcchcifcfcpjiaa.J
