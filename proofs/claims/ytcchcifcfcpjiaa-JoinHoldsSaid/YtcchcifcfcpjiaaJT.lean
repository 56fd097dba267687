/- The law JoinHolds: what it computes is true. -/
import Derived.Test.YtcchcifcfcpjiaaPKx14
set_option linter.unusedVariables false
set_option linter.unusedSimpArgs false
namespace Go.Proofs.Ytcchcifcfcpjiaa.J
open Go.RowKit Go.Proofs.YtcchcifcfcpjiaaW.PrintWords Go.Proofs.YtcchcifcfcpjiaaW.PrintLast Go.Proofs.YtcchcifcfcpjiaaW.PrintMore Go.Proofs.Ytcchcifcfcpjiaa.PJ

theorem rdL4_at (xs : List (List Int)) (i : Nat) (h : i < xs.length) : rd_L4 xs (i : Int) = xs[i] := by
  unfold rd_L4
  simp [List.getD_eq_getElem?_getD, List.getElem?_eq_getElem h]

section
variable (nm lb : ByteArray) (kd : Int) (out : List ByteArray) (ats : List S118) (es : List S82) (row : List Int)
theorem law0_ev (ho : out.length ≤ 1000) (ha : ats.length ≤ 1000) (hel : es.length ≤ 1000) (ys : List (List Int)) (hyl : ys.length ≤ 3000) (hyr : ∀ r ∈ ys, r.length ≤ 1000000) (is : Bool)
    (hall : ∀ r ∈ ys, ((decide (kd = 1) && checkB nm lb out ats) && (decide (r.length = (varsOf ats).length) && holdsB es ats r)) = true) (hrow : decide (row ∈ ys) = is) : ∀ (m i : Nat), ys.length - i = m → i ≤ ys.length →
    Ev (fun k => rhizomelaw11_JoinHolds.l0 k es row is ys ys (ys.length : Int) (i : Int) nm kd out ats lb) true := by
  intro m
  induction m with
  | zero =>
    intro i hm hi
    have hie : i = ys.length := by omega
    subst hie
    refine Ev.step (f := fun k => (rhizomeref10_Has.f k ys row).bind fun t396 => (some (t396 == is))) (fun k => ?_) ?_
    · simp only [rhizomelaw11_JoinHolds.l0]
      rw [if_neg (by omega)]
    · refine Ev.bind (rhas_val ys row (by omega) hyr) ?_
      rw [hrow]
      simp only [beq_self_eq_true]
      exact Ev.now _
  | succ m ih =>
    intro i hm hi
    have hil : i < ys.length := by omega
    have hh := hall ys[i] (List.getElem_mem _)
    refine Ev.step (f := fun k => rhizomelaw11_JoinHolds.l0 k es row is ys ys (ys.length : Int) ((i + 1 : Nat) : Int) nm kd out ats lb) (fun k => ?_) (ih (i + 1) (by omega) (by omega))
    simp only [rhizomelaw11_JoinHolds.l0]
    rw [if_pos (by omega), if_pos (by omega), if_pos (by omega), rdL4_at _ _ hil, wrap_succ i ys.length hil (by omega)]
    simp only [join_Holds.f, ho, ha, hel, and_self, if_true, hh, Option.bind_some]

theorem law_val (ht : TxtOk nm lb ats) : Ev (fun k => rhizomelaw11_JoinHolds.f k nm kd out ats lb es row) true := by
  have e1 : Ev (fun k => rhizomelaw11_JoinHolds.j0 k es row true nm kd out ats lb) true := Ev.step (f := fun _ => some true) (fun k => by simp only [rhizomelaw11_JoinHolds.j0, if_true, rhizomelaw11_awake.f, Option.bind_some]) (Ev.now _)
  unfold rhizomelaw11_JoinHolds.f
  simp only [rhizomelaw11_awake.f, Option.bind_some, if_true, rhizomelaw11_Fits.f]
  by_cases h1 : (es.length : Int) ≤ 25
  case neg =>
    simp only [if_neg h1, Option.bind_some, Bool.false_eq_true, if_false]
    exact e1
  by_cases h2 : (ats.length : Int) ≤ 12
  case neg =>
    simp only [if_pos h1, if_neg h2, Option.bind_some, Bool.false_eq_true, if_false]
    exact e1
  by_cases h3 : (out.length : Int) ≤ 12
  case neg =>
    simp only [if_pos h1, if_pos h2, decide_eq_false h3, Option.bind_some, Bool.false_eq_true, if_false]
    exact e1
  simp only [if_pos h1, if_pos h2, decide_eq_true h3, Option.bind_some, if_true]
  by_cases h4 : (row.length : Int) > 40
  · rw [decide_eq_true h4]
    exact e1
  rw [decide_eq_false h4]
  have ho : out.length ≤ 1000 := by omega
  have ha : ats.length ≤ 1000 := by omega
  have hel : es.length ≤ 1000 := by omega
  have hvl := varsOf_length ats
  generalize his : ((decide (kd = 1) && checkB nm lb out ats) && (decide (row.length = (varsOf ats).length) && holdsB es ats row)) = is
  have hrh := rholds_val nm lb kd out ats es row ht ha ho hel
  rw [his] at hrh
  refine Ev.step (f := fun k => (rhizomeref11_Holds.f k nm kd out ats lb es row).bind fun t389 => (if (is != t389) = true then (some false) else ((join_Rows.f k nm kd out ats lb es).bind fun bt390 => (if bt390.2 = 0 then (rhizomelaw11_JoinHolds.l0 k es row is bt390.1 bt390.1 (bt390.1.length : Int) 0 nm kd out ats lb) else (if bt390.2 = 1 then (if is = true then (some (bt390.2 == 5)) else (some true)) else (some (bt390.2 == 5))))))) (fun k => ?_) ?_
  · simp only [rhizomelaw11_JoinHolds.j0, Bool.false_eq_true, if_false, rhizomelaw09_Own.f, Option.bind_some, List.length_nil, Nat.zero_add, List.nil_append]
    rw [if_pos (by omega)]
    simp only [show ats.length < 2932031007402 by omega, if_true, Option.bind_some]
    rw [if_pos (by omega)]
    simp only [join_Holds.f, ho, ha, hel, and_self, if_true, his, Option.bind_some]
  · refine Ev.bind hrh ?_
    simp only [bne_self_eq_false, Bool.false_eq_true, if_false, join_Rows.f, ho, ha, hel, and_self, if_true, Option.bind_some]
    by_cases hg : (decide (kd = 1) && checkB nm lb out ats) = true
    · simp only [if_pos hg]
      cases hall : allRows (varsOf ats) es ats [[]] with
      | none =>
        simp only [show ¬ (5 : Int) = 0 by decide, show ¬ (5 : Int) = 1 by decide, if_false]
        exact Ev.now _
      | some rows =>
        simp only [if_true]
        have hset := isSet_setOf rows
        have hmem : ∀ r, r ∈ setOf rows ↔ r.length = (varsOf ats).length ∧ holdsB es ats r = true := fun r => (hset.mem r).trans (mem_all_rows hall r)
        have hlen : (setOf rows).length ≤ 3000 := by
          have h5 : ∀ l : List (List Int), (setOf l).length ≤ l.length := by
            have h6 : ∀ (t : List Int) (l : List (List Int)), (insU t l).length ≤ l.length + 1 := by
              intro t l
              induction l with
              | nil => simp [insU]
              | cons y l ih =>
                unfold insU
                split
                · simp
                · split
                  · simp
                  · simp only [List.length_cons]; omega
            intro l
            induction l with
            | nil => simp [setOf]
            | cons t l ih =>
              have := h6 t (setOf l)
              show (insU t (setOf l)).length ≤ _
              simp only [List.length_cons]
              omega
          exact Nat.le_trans (h5 rows) (allRows_le _ _ ats [[]] rows (by simp) hall)
        refine law0_ev nm lb kd out ats es row ho ha hel (setOf rows) hlen (fun r hr => ?_) is (fun r hr => ?_) ?_ (setOf rows).length 0 (by omega) (by omega)
        · have := ((hmem r).1 hr).1
          omega
        · have := (hmem r).1 hr
          rw [hg, decide_eq_true this.1, this.2]
          rfl
        · rw [← his, hg, Bool.true_and, Bool.eq_iff_iff, decide_eq_true_eq, hmem, Bool.and_eq_true, decide_eq_true_eq]
    · simp only [if_neg hg, show ¬ (1 : Int) = 0 by decide, if_false, if_true]
      have hgf : (decide (kd = 1) && checkB nm lb out ats) = false := by simpa using hg
      rw [hgf] at his
      simp only [Bool.false_and] at his
      subst his
      simp only [Bool.false_eq_true, if_false]
      exact Ev.now _
end
end Go.Proofs.Ytcchcifcfcpjiaa.J
