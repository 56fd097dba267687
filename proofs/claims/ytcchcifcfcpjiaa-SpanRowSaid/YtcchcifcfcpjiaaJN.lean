/- Maps of the call's own: 'm[k] op= ..' (the entry, then the store to it). -/
import Derived.Test.YtcchcifcfcpjiaaJM
set_option linter.unusedVariables false
set_option linter.unusedSimpArgs false
namespace Go.Proofs.Ytcchcifcfcpjiaa.J
open Go.RowKit Go.Proofs.YtcchcifcfcpjiaaW.PrintWords Go.Proofs.YtcchcifcfcpjiaaW.PrintLast Go.Proofs.YtcchcifcfcpjiaaW.PrintMore Go.Proofs.Ytcchcifcfcpjiaa.PJ

section
variable {κ : Type} [DecidableEq κ] {enc : κ → Value}
theorem putA_at (k : κ) (c : Nat) : ∀ (l : List (κ × Value × Nat)), ∃ (i s : Nat), (∀ v, (putA k v c l)[i]? = some (k, v, s)) ∧ ∀ v u, putA k u c l = (putA k v c l).set i (k, u, s)
  | [] => ⟨0, c, fun v => rfl, fun v u => rfl⟩
  | e :: l => by
    by_cases h : k = e.1
    · exact ⟨0, e.2.2, fun v => by simp [putA, h], fun v u => by simp [putA, h]⟩
    · obtain ⟨i, s, h1, h2⟩ := putA_at k c l
      refine ⟨i + 1, s, fun v => ?_, fun v u => ?_⟩
      · simp only [putA, if_neg h, List.getElem?_cons_succ]; exact h1 v
      · simp only [putA, if_neg h, List.set_cons_succ]; rw [h2 v u]
omit [DecidableEq κ] in
theorem findIdx_stamp : ∀ {L : List (κ × Value × Nat)} (hp : L.Pairwise (fun e f => e.2.2 ≠ f.2.2)) {i : Nat} {e : κ × Value × Nat} (h : L[i]? = some e),
    (L.map (mkE enc)).findIdx? (fun x => (x.born : Int) == (e.2.2 : Int)) = some i
  | [], _, i, e, h => by simp at h
  | f :: L, hp, 0, e, h => by
    have : f = e := by simpa using h
    subst this
    simp [List.findIdx?_cons, mkE]
  | f :: L, hp, i + 1, e, h => by
    rw [List.getElem?_cons_succ] at h
    have h2 := findIdx_stamp (List.pairwise_cons.1 hp).2 h
    have h3 := (List.pairwise_cons.1 hp).1 e (List.mem_of_getElem? h)
    simp only [List.map_cons, List.findIdx?_cons, h2]
    have h4 : (((mkE enc f).born : Int) == (e.2.2 : Int)) = false := by
      show ((f.2.2 : Int) == (e.2.2 : Int)) = false
      exact beq_eq_false_iff_ne.2 (fun h => h3 (by omega))
    rw [h4]
    rfl
end

section
variable {κ : Type} [DecidableEq κ] {enc : κ → Value} {P : Program} {w : World} {b t e T : Nat} {l : List (κ × Value × Nat)} {clock : Nat}
theorem run_mapEntry_my (K : KeyL P t enc) (hT : P.underlying T = some (.map t e)) (z : Value) (hz : ∀ w, (zeroValue e).run P w = .ok z w) (hM : MapIs enc w b l clock) (k : κ) :
    ∃ (s : Nat) (w1 : World), (Instr.mapEntry T (.map (some b)) (enc k)).run P w = .ok (.tuple #[(getA k l).getD z, goInt s]) w1 ∧ MapIs enc w1 b (putA k ((getA k l).getD z) clock l) (tick k clock l) ∧ w.grownBy w1 (some b) ∧ w1.heap.size = w.heap.size ∧ (∀ v, ∃ w2, (Instr.entryStore T (.map (some b)) (.int .i64 s) v).run P w1 = .ok () w2 ∧
      MapIs enc w2 b (putA k v clock l) (tick k clock l) ∧ w.grownBy w2 (some b) ∧ w2.heap.size = w.heap.size) := by
  have hg : (getObj b).run P w = .ok (.map (l.map (mkE enc)).toArray clock) w := MapKept.run_getObj_map hM.1
  have hf := K.find k l w
  obtain ⟨i, s, hi, hset⟩ := putA_at k clock l
  have hst := fun v => stamps_put (k := k) (v := v) hM.2.1 hM.2.2
  refine ⟨s, setB w b (.map ((putA k ((getA k l).getD z) clock l).map (mkE enc)).toArray (tick k clock l)), ?_, mapIs_put hM k _, setB_grown _, setB_size _ _ _, fun v => ⟨setB w b (.map ((putA k v clock l).map (mkE enc)).toArray (tick k clock l)), ?_, mapIs_put hM k v, setB_grown _, setB_size _ _ _⟩⟩
  · unfold Instr.mapEntry
    simp only [Sem.run_bind, run_underlying hT, Result.andThen_ok, hg, Sem.run_pure, K.check, hf]
    cases hfa : findA k l 0 with
    | none =>
      have hn : getA k l = none := by simp [getA, hfa]
      have hs : s = clock := by
        have h2 := hi z
        rw [putA_none hn] at h2
        have hil : i = l.length := by
          rcases Nat.lt_trichotomy i l.length with h | h | h
          · exfalso
            rw [List.getElem?_append_left h] at h2
            have hme := List.mem_of_getElem? h2
            have : ∀ {L : List (κ × Value × Nat)} {u : Value}, (k, u, s) ∈ L → getA k L ≠ none := by
              intro L u
              induction L with
              | nil => intro h; simp at h
              | cons f L ih =>
                intro h
                rw [getA_cons]
                rcases List.mem_cons.1 h with h | h
                · rw [← h]; simp
                · split
                  · simp
                  · exact ih h
            exact this hme hn
          · exact h
          · rw [List.getElem?_eq_none (by simp; omega)] at h2; cases h2
        subst hil
        simp at h2
        exact h2.symm
      subst hs
      simp only [Sem.run_bind, Sem.run_pure, hz, Result.andThen_ok, tick, hn, Option.isSome_none, Bool.false_eq_true, if_false, putA_none hn, Option.getD_none]
      rw [MapKept.run_setObj_map _ hM.1]
      simp [setB, mkE]
    | some x =>
      obtain ⟨f, hf1, hf2, hf3, hf4⟩ := putA_some (v := x.2) (c := clock) (l := l) (i := x.1) (u := x.2) (by rw [hfa])
      have hs : getA k l = some x.2 := by simp [getA, hfa]
      have hlt := (List.getElem?_eq_some_iff.1 hf1).1
      have hkey : ((((l.map (mkE enc)).toArray[x.1]?).map (·.key)).getD (enc k)) = enc k := by
        simp [hf1, mkE, hf2]
      have hsame : putA k x.2 clock l = l := by
        rw [hf4]
        apply List.ext_getElem?
        intro j
        rw [List.getElem?_set]
        by_cases hj : x.1 = j
        · subst hj
          rw [if_pos rfl, if_pos hlt, hf1, ← hf3]
        · rw [if_neg hj]
      have hborn : (((l.map (mkE enc)).toArray[x.1]?).map (fun x => (x.born : Int))).getD 0 = (s : Int) := by
        have h2 := hi x.2
        rw [hsame] at h2
        have h3 : i = x.1 := by
          have h5 := hset x.2 (.bool true)
          rw [hsame] at h5
          obtain ⟨f2, g1, g2, g3, g4⟩ := putA_some (v := .bool true) (c := clock) (l := l) (i := x.1) (u := x.2) (by rw [hfa])
          have h6 := hi (.bool true)
          rcases Decidable.em (i = x.1) with h | h
          · exact h
          · exfalso
            rw [g4, List.getElem?_set, if_neg (fun hh => h hh.symm), h2] at h6
            have h8 := hset (.bool true) (.bool false)
            have h9 := hi (.bool false)
            injection h6 with h6
            injection h6 with _ h6
            injection h6 with h6 _
            obtain ⟨f3, q1, q2, q3, q4⟩ := putA_some (v := .bool false) (c := clock) (l := l) (i := x.1) (u := x.2) (by rw [hfa])
            rw [q4, List.getElem?_set, if_neg (fun hh => h hh.symm), h2] at h9
            injection h9 with h9
            injection h9 with _ h9
            injection h9 with h9 _
            rw [h6] at h9
            cases h9
        subst h3
        simp [h2, mkE]
      simp only [hkey, Instr.keyThatStays, K.same, if_true, Sem.run_bind, Sem.run_pure, Result.andThen_ok, tick, hs, Option.isSome_some, Option.getD_some, hborn, hsame]
      rw [MapKept.run_setObj_map _ hM.1]
      simp only [Result.andThen_ok]
      congr 1
      unfold setB
      congr 2
      congr 1
      apply Array.ext'
      rw [Array.toList_modify]
      apply List.ext_getElem?
      intro j
      show _ = (List.map (mkE enc) l)[j]?
      rw [List.getElem?_modify, List.getElem?_map]
      by_cases hj : x.1 = j
      · subst hj
        rw [hf1]
        simp [mkE, hf2]
      · cases l[j]? <;> simp [hj]
  · have hM1 := mapIs_put hM k ((getA k l).getD z)
    have hg1 : (getObj b).run P (setB w b (.map ((putA k ((getA k l).getD z) clock l).map (mkE enc)).toArray (tick k clock l))) = .ok (.map ((putA k ((getA k l).getD z) clock l).map (mkE enc)).toArray (tick k clock l)) (setB w b (.map ((putA k ((getA k l).getD z) clock l).map (mkE enc)).toArray (tick k clock l))) := MapKept.run_getObj_map hM1.1
    have hidx := findIdx_stamp (enc := enc) (hst ((getA k l).getD z)).2 (hi ((getA k l).getD z))
    have hil := (List.getElem?_eq_some_iff.1 (hi ((getA k l).getD z))).1
    unfold Instr.entryStore
    simp only [Sem.run_bind, Sem.run_pure, Result.andThen_ok, hg1, asInt, asIntOf, List.findIdx?_toArray, hidx]
    rw [MapKept.run_setObj_map _ hM1.1]
    congr 1
    unfold setB
    simp only [Array.setIfInBounds_setIfInBounds]
    congr 2
    congr 1
    apply Array.ext'
    rw [Array.toList_modify]
    rw [hset ((getA k l).getD z) v]
    apply List.ext_getElem?
    intro j
    show _ = (List.map (mkE enc) _)[j]?
    rw [List.getElem?_modify, List.getElem?_map, List.getElem?_map, List.getElem?_set]
    by_cases hj : i = j
    · subst hj
      rw [if_pos rfl, if_pos hil, hi]
      simp [mkE]
    · rw [if_neg hj]
      cases (putA k ((getA k l).getD z) clock l)[j]? <;> simp [hj]
end
end Go.Proofs.Ytcchcifcfcpjiaa.J
