/- What the printed functions compute: Check, Good. -/
import Derived.Test.YtcchcifcfcpjiaaJK2
set_option linter.unusedVariables false
set_option linter.unusedSimpArgs false
namespace Go.Proofs.Ytcchcifcfcpjiaa.J
open Go.RowKit Go.Proofs.YtcchcifcfcpjiaaW.PrintWords Go.Proofs.YtcchcifcfcpjiaaW.PrintLast Go.Proofs.YtcchcifcfcpjiaaW.PrintMore Go.Proofs.Ytcchcifcfcpjiaa.PJ

def atomB (a : S118) : Bool := nameB a.f0 && (nameB a.f1 && nameB a.f2)
/-- Each is a variable, and none comes twice. -/
def outB (vs : List ByteArray) : List ByteArray → List ByteArray → Bool
  | _, [] => true
  | pre, o :: os => decide (o ∈ vs) && (!decide (o ∈ pre) && outB vs (pre ++ [o]) os)
def headB (nm lb : ByteArray) (out : List ByteArray) (ats : List S118) : Bool :=
  nameB nm && (decide (lb.toList = []) && (decide (1 ≤ out.length) && (decide (out.length ≤ 6) && (decide (1 ≤ ats.length) && decide (ats.length ≤ 8)))))
/-- Is it a pattern? -/
def checkB (nm lb : ByteArray) (out : List ByteArray) (ats : List S118) : Bool := headB nm lb out ats && (ats.all atomB && outB (varsOf ats) [] out)

section
variable (nm lb : ByteArray) (kd : Int) (out : List ByteArray) (ats : List S118)
theorem chk1_ev (vs : List ByteArray) (hv : vs.length ≤ 1000000) (ho : out.length ≤ 1000) : ∀ (m i : Nat) (b : Bool), out.length - i = m → i ≤ out.length →
    Ev (fun k => query_Check.l1 k b vs out (out.length : Int) (i : Int) nm kd out ats lb) (if (b && outB vs (out.take i) (out.drop i)) = true then 0 else 1) := by
  intro m
  induction m with
  | zero =>
    intro i b hm hi
    have hie : i = out.length := by omega
    subst hie
    rw [List.drop_length]
    refine Ev.step (f := fun _ => if b = true then some 0 else some 1) (fun k => ?_) ?_
    · simp only [query_Check.l1]
      rw [if_neg (by omega)]
    · cases b
      · exact Ev.now _
      · exact Ev.now _
  | succ m ih =>
    intro i b hm hi
    have hil : i < out.length := by omega
    have hdr : out.drop i = out[i] :: out.drop (i + 1) := List.drop_eq_getElem_cons hil
    have htk : out.take (i + 1) = out.take i ++ [out[i]] := by rw [List.take_add_one, List.getElem?_eq_getElem hil]; rfl
    have hih := fun b => ih (i + 1) b (by omega) (by omega)
    cases b with
    | false =>
      refine Ev.step (f := fun k => query_Check.l1 k false vs out (out.length : Int) ((i + 1 : Nat) : Int) nm kd out ats lb) (fun k => ?_) ?_
      · simp only [query_Check.l1]
        rw [if_pos (by omega), if_pos (by omega), if_pos (by omega), wrap_succ i out.length hil (by omega)]
        rfl
      · exact hih false
    | true =>
      refine Ev.step (f := fun k => (slices_Contains_string_string.f k vs out[i]).bind fun t261 => (if t261 = true then ((slices_Contains_string_string.f k (out.take i) out[i]).bind fun t263 => (query_Check.l1 k (!t263) vs out (out.length : Int) ((i + 1 : Nat) : Int) nm kd out ats lb)) else (query_Check.l1 k false vs out (out.length : Int) ((i + 1 : Nat) : Int) nm kd out ats lb))) (fun k => ?_) ?_
      · simp only [query_Check.l1]
        rw [if_pos (by omega), if_pos (by omega), if_pos (by omega), rdOf_at _ _ hil, wrap_succ i out.length hil (by omega)]
        simp only [if_true, show (i : Int) ≤ (out.length : Int) by omega, Int.toNat_natCast]
      · refine Ev.bind (contains_val vs out[i] hv) ?_
        rw [hdr]
        by_cases hm1 : out[i] ∈ vs
        · simp only [decide_eq_true hm1, if_true, outB, Bool.true_and]
          refine Ev.bind (contains_val (out.take i) out[i] (by rw [List.length_take]; omega)) ?_
          rw [← htk]
          exact hih _
        · simp only [decide_eq_false hm1, Bool.false_eq_true, if_false, outB, Bool.false_and, Bool.and_false]
          have := hih false
          simpa using this

theorem chk0_ev (ha : ats.length ≤ 1000) (ho : out.length ≤ 1000) : ∀ (m i : Nat) (b : Bool), ats.length - i = m → i ≤ ats.length →
    Ev (fun k => query_Check.l0 k b ats (ats.length : Int) (i : Int) nm kd out ats lb) (if (b && ((ats.drop i).all atomB && outB (varsOf ats) [] out)) = true then 0 else 1) := by
  have hvl := varsOf_length ats
  intro m
  induction m with
  | zero =>
    intro i b hm hi
    have hie : i = ats.length := by omega
    subst hie
    rw [List.drop_length]
    refine Ev.step (f := fun k => if b = true then ((query_Vars.f k nm kd out ats lb).bind fun t257 => (query_Check.l1 k b t257 out (out.length : Int) ((0 : Nat) : Int) nm kd out ats lb)) else (some 1)) (fun k => ?_) ?_
    · simp only [query_Check.l0]
      rw [if_neg (by omega)]
      rfl
    · cases b
      · exact Ev.now _
      · simp only [if_true]
        refine Ev.bind (qvars_val nm lb kd out ats ha) ?_
        have := chk1_ev nm lb kd out ats (varsOf ats) (by omega) ho out.length 0 true (by omega) (by omega)
        simpa using this
  | succ m ih =>
    intro i b hm hi
    have hil : i < ats.length := by omega
    have hdr : ats.drop i = ats[i] :: ats.drop (i + 1) := List.drop_eq_getElem_cons hil
    have hih := fun b => ih (i + 1) b (by omega) (by omega)
    cases b with
    | false =>
      refine Ev.step (f := fun k => query_Check.l0 k false ats (ats.length : Int) ((i + 1 : Nat) : Int) nm kd out ats lb) (fun k => ?_) ?_
      · simp only [query_Check.l0]
        rw [if_pos (by omega), if_pos (by omega), if_pos (by omega), wrap_succ i ats.length hil (by omega)]
        rfl
      · exact hih false
    | true =>
      refine Ev.step (f := fun k => query_Check.l0 k (atomB ats[i]) ats (ats.length : Int) ((i + 1 : Nat) : Int) nm kd out ats lb) (fun k => ?_) ?_
      · simp only [query_Check.l0]
        rw [if_pos (by omega), if_pos (by omega), if_pos (by omega), rd118_at _ _ hil, wrap_succ i ats.length hil (by omega)]
        simp only [if_true, query_name.f, Option.bind_some, atomB]
        cases nameB ats[i].f0 <;> cases nameB ats[i].f1 <;> cases nameB ats[i].f2 <;> simp
      · rw [hdr, List.all_cons]
        have := hih (atomB ats[i])
        simpa [Bool.and_assoc] using this
theorem chk_val (ha : ats.length ≤ 1000) (ho : out.length ≤ 1000) : Ev (fun k => query_Check.f k nm 1 out ats lb) (if checkB nm lb out ats = true then 0 else 1) := by
  have hj := fun b => Ev.step (g := fun k => query_Check.j0 k b nm 1 out ats lb) (fun k => by simp only [query_Check.j0]; rfl) (chk0_ev nm lb 1 out ats ha ho ats.length 0 b (by omega) (by omega))
  have e : ∀ b, Ev (fun k => query_Check.j0 k b nm 1 out ats lb) (if (b && (ats.all atomB && outB (varsOf ats) [] out)) = true then 0 else 1) := fun b => by simpa using hj b
  refine Ev.congr (f := fun k => query_Check.j0 k (headB nm lb out ats) nm 1 out ats lb) (fun k => ?_) ?_
  · simp only [query_Check.f, query_name.f, Option.bind_some]
    have e3 : ((out.length : Int) ≥ 1) = (1 ≤ out.length) := propext (by omega)
    have e4 : ((out.length : Int) ≤ 6) = (out.length ≤ 6) := propext (by omega)
    have e5 : ((ats.length : Int) ≥ 1) = (1 ≤ ats.length) := propext (by omega)
    have e6 : decide ((ats.length : Int) ≤ 8) = decide (ats.length ≤ 8) := by
      rw [Bool.eq_iff_iff]
      simp only [decide_eq_true_eq]
      omega
    rw [if_neg (by decide), if_pos (by decide), e6]
    simp only [e3, e4, e5]
    unfold headB
    by_cases h1 : nameB nm = true
    · rw [if_pos h1, h1]
      by_cases h2 : lb.toList = []
      · rw [if_pos h2, decide_eq_true h2]
        by_cases h3 : 1 ≤ out.length
        · rw [if_pos h3, decide_eq_true h3]
          by_cases h4 : out.length ≤ 6
          · rw [if_pos h4, decide_eq_true h4]
            by_cases h5 : 1 ≤ ats.length
            · rw [if_pos h5, decide_eq_true h5]
              rfl
            · rw [if_neg h5, decide_eq_false h5]
              rfl
          · rw [if_neg h4, decide_eq_false h4]
            rfl
        · rw [if_neg h3, decide_eq_false h3]
          rfl
      · rw [if_neg h2, decide_eq_false h2]
        rfl
    · have h1' : nameB nm = false := by simpa using h1
      rw [if_neg h1, h1']
      rfl
  · exact e _
theorem bad_val (ha : ats.length ≤ 1000) (ho : out.length ≤ 1000) : Ev (fun k => join_bad.f k nm kd out ats lb) (!(decide (kd = 1) && checkB nm lb out ats)) := by
  unfold join_bad.f
  by_cases hk : kd = 1
  · subst hk
    simp only [if_true, decide_true, Bool.true_and]
    refine Ev.bind (chk_val nm lb out ats ha ho) ?_
    cases checkB nm lb out ats
    · exact Ev.now _
    · exact Ev.now _
  · simp only [if_neg hk, decide_eq_false hk, Bool.false_and, Bool.not_false]
    exact Ev.now _

theorem good1_ev (ha : ats.length ≤ 1000) (ho : out.length ≤ 1000) : ∀ (m i : Nat), out.length - i = m → i ≤ out.length →
    Ev (fun k => rhizomeref09_Good.l1 k (out.length : Int) (i : Int) nm kd out ats lb) (outB (varsOf ats) (out.take i) (out.drop i)) := by
  have hvl := varsOf_length ats
  intro m
  induction m with
  | zero =>
    intro i hm hi
    have hie : i = out.length := by omega
    subst hie
    rw [List.drop_length]
    refine Ev.step (f := fun _ => some true) (fun k => ?_) (Ev.now _)
    simp only [rhizomeref09_Good.l1]
    rw [if_neg (by omega)]
  | succ m ih =>
    intro i hm hi
    have hil : i < out.length := by omega
    have hdr : out.drop i = out[i] :: out.drop (i + 1) := List.drop_eq_getElem_cons hil
    have htk : out.take (i + 1) = out.take i ++ [out[i]] := by rw [List.take_add_one, List.getElem?_eq_getElem hil]; rfl
    have hih := ih (i + 1) (by omega) (by omega)
    refine Ev.step (f := fun k => (rhizomeref09_has.f k (out.take i) out[i]).bind fun t184 => (if t184 = true then (some false) else ((rhizomeref09_Vars.f k nm kd out ats lb).bind fun t185 => ((rhizomeref09_has.f k t185 out[i]).bind fun t189 => (if t189 = true then (rhizomeref09_Good.l1 k (out.length : Int) ((i + 1 : Nat) : Int) nm kd out ats lb) else (some false)))))) (fun k => ?_) ?_
    · simp only [rhizomeref09_Good.l1]
      rw [if_pos (by omega), if_pos (by omega), if_pos (by omega), if_pos (by omega), rdOf_at _ _ hil, wrap_succ i out.length hil (by omega), Int.toNat_natCast]
    · rw [hdr]
      refine Ev.bind (has_val (out.take i) out[i] (by rw [List.length_take]; omega)) ?_
      by_cases h1 : out[i] ∈ out.take i
      · simp only [decide_eq_true h1, if_true, outB, Bool.not_true, Bool.false_and, Bool.and_false]
        exact Ev.now _
      · simp only [decide_eq_false h1, Bool.false_eq_true, if_false, outB, Bool.not_false, Bool.true_and]
        refine Ev.bind (rvars_val nm lb kd out ats ha) ?_
        refine Ev.bind (has_val (varsOf ats) out[i] (by omega)) ?_
        by_cases h2 : out[i] ∈ varsOf ats
        · simp only [decide_eq_true h2, if_true, Bool.true_and]
          rw [← htk]
          exact hih
        · simp only [decide_eq_false h2, Bool.false_eq_true, if_false, Bool.false_and]
          exact Ev.now _

/-- The texts are no longer than memory. -/
def TxtOk (nm lb : ByteArray) (ats : List S118) : Prop := nm.size ≤ 9223372036854775807 ∧ lb.size ≤ 9223372036854775807 ∧ ∀ a ∈ ats, a.f0.size ≤ 9223372036854775807 ∧ a.f1.size ≤ 9223372036854775807 ∧ a.f2.size ≤ 9223372036854775807

theorem good0_ev (ht : TxtOk nm lb ats) (ha : ats.length ≤ 1000) (ho : out.length ≤ 1000) : ∀ (m i : Nat), ats.length - i = m → i ≤ ats.length →
    Ev (fun k => rhizomeref09_Good.l0 k (ats.length : Int) (i : Int) nm kd out ats lb) ((ats.drop i).all atomB && outB (varsOf ats) [] out) := by
  intro m
  induction m with
  | zero =>
    intro i hm hi
    have hie : i = ats.length := by omega
    subst hie
    rw [List.drop_length]
    refine Ev.step (f := fun k => rhizomeref09_Good.l1 k (out.length : Int) ((0 : Nat) : Int) nm kd out ats lb) (fun k => ?_) ?_
    · simp only [rhizomeref09_Good.l0]
      rw [if_neg (by omega)]
      rfl
    · have := good1_ev nm lb kd out ats ha ho out.length 0 (by omega) (by omega)
      simpa using this
  | succ m ih =>
    intro i hm hi
    have hil : i < ats.length := by omega
    have hdr : ats.drop i = ats[i] :: ats.drop (i + 1) := List.drop_eq_getElem_cons hil
    have hih := ih (i + 1) (by omega) (by omega)
    obtain ⟨t0, t1, t2⟩ := ht.2.2 ats[i] (List.getElem_mem _)
    refine Ev.step (f := fun k => (rhizomeref07_Name.f k ats[i].f0).bind fun t179 => (if t179 = true then ((rhizomeref07_Name.f k ats[i].f1).bind fun t180 => (if t180 = true then ((rhizomeref07_Name.f k ats[i].f2).bind fun t181 => (if t181 = true then (rhizomeref09_Good.l0 k (ats.length : Int) ((i + 1 : Nat) : Int) nm kd out ats lb) else (some false))) else (some false))) else (some false))) (fun k => ?_) ?_
    · simp only [rhizomeref09_Good.l0]
      rw [if_pos (by omega), if_pos (by omega), if_pos (by omega), rd118_at _ _ hil, wrap_succ i ats.length hil (by omega)]
    · rw [hdr, List.all_cons]
      unfold atomB
      refine Ev.bind (name_val _ t0) ?_
      cases h0 : nameB ats[i].f0
      · simp only [Bool.false_eq_true, if_false, Bool.false_and]
        exact Ev.now _
      · simp only [if_true, Bool.true_and]
        refine Ev.bind (name_val _ t1) ?_
        cases h1 : nameB ats[i].f1
        · simp only [Bool.false_eq_true, if_false, Bool.false_and]
          exact Ev.now _
        · simp only [if_true, Bool.true_and]
          refine Ev.bind (name_val _ t2) ?_
          cases h2 : nameB ats[i].f2
          · simp only [Bool.false_eq_true, if_false, Bool.false_and]
            exact Ev.now _
          · simp only [if_true, Bool.true_and]
            exact hih

theorem good_val (ht : TxtOk nm lb ats) (ha : ats.length ≤ 1000) (ho : out.length ≤ 1000) : Ev (fun k => rhizomeref09_Good.f k nm 1 out ats lb) (checkB nm lb out ats) := by
  have e : Ev (fun k => rhizomeref09_Good.j0 k false nm 1 out ats lb) (ats.all atomB && outB (varsOf ats) [] out) := Ev.step (fun k => by simp only [rhizomeref09_Good.j0, Bool.false_eq_true, if_false]; rfl) (by simpa using good0_ev nm lb 1 out ats ht ha ho ats.length 0 (by omega) (by omega))
  have e2 : Ev (fun k => rhizomeref09_Good.j0 k true nm 1 out ats lb) false := Ev.step (f := fun _ => some false) (fun k => by simp only [rhizomeref09_Good.j0, if_true]) (Ev.now _)
  unfold rhizomeref09_Good.f checkB headB
  refine Ev.bind (name_val nm ht.1) ?_
  cases h0 : nameB nm
  · simp only [Bool.false_eq_true, if_false, Bool.false_and]
    exact Ev.now _
  simp only [if_true, Bool.true_and, show ¬ (1 : Int) = 2 by decide, if_false]
  by_cases h2 : lb.toList = []
  · rw [decide_eq_true h2, Bool.true_and]
    simp only [if_pos h2]
    by_cases h3 : 1 ≤ out.length
    · rw [decide_eq_true h3, Bool.true_and]
      simp only [show ¬ (out.length : Int) < 1 by omega, if_false]
      by_cases h4 : out.length ≤ 6
      · rw [decide_eq_true h4, Bool.true_and]
        simp only [show ¬ (out.length : Int) > 6 by omega, if_false]
        by_cases h5 : 1 ≤ ats.length
        · rw [decide_eq_true h5, Bool.true_and]
          simp only [show ¬ (ats.length : Int) < 1 by omega, if_false]
          by_cases h6 : ats.length ≤ 8
          · rw [decide_eq_true h6, Bool.true_and]
            simp only [show decide ((ats.length : Int) > 8) = false from decide_eq_false (by omega)]
            exact e
          · rw [decide_eq_false h6, Bool.false_and]
            simp only [show decide ((ats.length : Int) > 8) = true from decide_eq_true (by omega)]
            exact e2
        · rw [decide_eq_false h5, Bool.false_and, Bool.false_and]
          simp only [show (ats.length : Int) < 1 by omega, if_true]
          exact e2
      · rw [decide_eq_false h4, Bool.false_and, Bool.false_and]
        simp only [show (out.length : Int) > 6 by omega, if_true]
        exact e2
    · rw [decide_eq_false h3, Bool.false_and, Bool.false_and]
      simp only [show (out.length : Int) < 1 by omega, if_true]
      exact e2
  · rw [decide_eq_false h2, Bool.false_and, Bool.false_and]
    simp only [if_neg h2]
    exact e2
end
end Go.Proofs.Ytcchcifcfcpjiaa.J
