/- Equal tuples that lie side by side, counted. Plain lists. -/
import Derived.Test.YtcchcifcfcpjiaaJE
set_option linter.unusedVariables false
set_option linter.unusedSimpArgs false
namespace Go.Proofs.Ytcchcifcfcpjiaa.J
open Go.RowKit Go.Proofs.YtcchcifcfcpjiaaW.PrintWords Go.Proofs.YtcchcifcfcpjiaaW.PrintLast Go.Proofs.YtcchcifcfcpjiaaW.PrintMore Go.Proofs.Ytcchcifcfcpjiaa.PJ

/-- One tuple more. -/
def grpStep (s : List (List Int) × List Int) (t : List Int) : List (List Int) × List Int :=
  match s.1.getLast? with
  | some u => if cmpL u t = 0 then (s.1, s.2.set (s.1.length - 1) (s.2.getD (s.1.length - 1) 0 + 1)) else (s.1 ++ [t], s.2 ++ [1])
  | none => (s.1 ++ [t], s.2 ++ [1])
def grp (l : List (List Int)) : List (List Int) × List Int := l.foldl grpStep ([], [])
theorem grp_snoc (l : List (List Int)) (t : List Int) : grp (l ++ [t]) = grpStep (grp l) t := by simp [grp]
theorem grp_take (l : List (List Int)) {k : Nat} (hk : k < l.length) : grp (l.take (k + 1)) = grpStep (grp (l.take k)) l[k] := by
  rw [List.take_add_one, List.getElem?_eq_getElem hk]
  exact grp_snoc _ _
theorem Rising.ofApp {a b : List (List Int)} (h : Rising (a ++ b)) : Rising a := (List.pairwise_append.1 h).1

theorem getLast?_append_one {α : Type} (l : List α) (x : α) : (l ++ [x]).getLast? = some x := by simp

theorem grpStep_len (s : List (List Int) × List Int) (t : List Int) (h : s.2.length = s.1.length) : (grpStep s t).2.length = (grpStep s t).1.length := by
  unfold grpStep
  split
  · split <;> simp [h]
  · simp [h]
theorem grp_len (l : List (List Int)) : (grp l).2.length = (grp l).1.length := by
  have : ∀ (l : List (List Int)) (s : List (List Int) × List Int), s.2.length = s.1.length → (l.foldl grpStep s).2.length = (l.foldl grpStep s).1.length := by
    intro l
    induction l with
    | nil => intro s h; exact h
    | cons t l ih => intro s h; exact ih _ (grpStep_len s t h)
  exact this l ([], []) rfl
theorem grp_le (l : List (List Int)) : (grp l).1.length ≤ l.length := by
  have : ∀ (l : List (List Int)) (s : List (List Int) × List Int), (l.foldl grpStep s).1.length ≤ s.1.length + l.length := by
    intro l
    induction l with
    | nil => intro s; simp
    | cons t l ih =>
      intro s
      have h1 := ih (grpStep s t)
      have h2 : (grpStep s t).1.length ≤ s.1.length + 1 := by
        unfold grpStep
        split
        · split <;> simp
        · simp
      simp only [List.foldl_cons, List.length_cons]
      omega
  simpa [grp] using this l ([], [])
theorem grpStep_new (s : List (List Int) × List Int) (t : List Int) (h : ∀ u, s.1.getLast? = some u → cmpL u t ≠ 0) : grpStep s t = (s.1 ++ [t], s.2 ++ [1]) := by
  unfold grpStep
  split
  · rename_i u hu
    rw [if_neg (h u hu)]
  · rfl
theorem grpStep_old (s : List (List Int) × List Int) (t u : List Int) (hu : s.1.getLast? = some u) (h : cmpL u t = 0) : grpStep s t = (s.1, s.2.set (s.1.length - 1) (s.2.getD (s.1.length - 1) 0 + 1)) := by
  unfold grpStep
  rw [hu]
  exact if_pos h
/-- What grp gives of a rising list: each once, with its count. -/
theorem grp_spec : ∀ (n : Nat) (l : List (List Int)), l.length = n → Rising l →
    (grp l).2 = (grp l).1.map (fun t => (l.count t : Int)) ∧ (∀ x, x ∈ (grp l).1 ↔ x ∈ l) ∧ (grp l).1.Pairwise (fun a b => cmpL a b < 0) ∧ (grp l).1.getLast? = l.getLast? := by
  intro n
  induction n with
  | zero =>
    intro l hl _
    have : l = [] := List.eq_nil_of_length_eq_zero hl
    subst this
    refine ⟨rfl, fun x => Iff.rfl, List.Pairwise.nil, rfl⟩
  | succ n ih =>
    intro l hl hr
    obtain ⟨l', t, rfl⟩ : ∃ l' t, l = l' ++ [t] := ⟨l.dropLast, l.getLast (by intro h; subst h; simp at hl), (List.dropLast_concat_getLast _).symm⟩
    have hl' : l'.length = n := by simpa using hl
    obtain ⟨h1, h2, h3, h4⟩ := ih l' hl' hr.ofApp
    rw [grp_snoc]
    have hcmp : ∀ x ∈ l', cmpL x t ≤ 0 := fun x hx => (List.pairwise_append.1 hr).2.2 x hx t (by simp)
    unfold grpStep
    cases hg : (grp l').1.getLast? with
    | none =>
      have he : (grp l').1 = [] := List.getLast?_eq_none_iff.1 hg
      have hl0 : l' = [] := by
        rw [h4] at hg
        exact List.getLast?_eq_none_iff.1 hg
      subst hl0
      refine ⟨by simp [he, h1, grp], fun x => by simp [he], by simp [he], by simp [he]⟩
    | some u =>
      obtain ⟨ys, hys⟩ := List.getLast?_eq_some_iff.1 hg
      have hul : u ∈ l' := (h2 u).1 (by rw [hys]; simp)
      have hmax : ∀ x ∈ (grp l').1, x = u ∨ cmpL x u < 0 := fun x hx => by
        rw [hys] at hx h3
        rcases List.mem_append.1 hx with h | h
        · exact .inr ((List.pairwise_append.1 h3).2.2 x h u (by simp))
        · exact .inl (by simpa using h)
      by_cases hc : cmpL u t = 0
      · have hut : u = t := cmpL_eq hc
        subst hut
        simp only [if_pos hc]
        refine ⟨?_, fun x => ?_, h3, ?_⟩
        · rw [h1, hys]
          have hnd : u ∉ ys := fun hmem => by
            rw [hys] at h3
            have := (List.pairwise_append.1 h3).2.2 u hmem u (by simp)
            rw [cmpL_refl] at this
            omega
          rw [List.map_append, List.map_append]
          have hlen : (ys ++ [u]).length - 1 = (ys.map (fun t => (l'.count t : Int))).length := by simp
          rw [hlen]
          simp only [List.map_cons, List.map_nil]
          rw [List.getD_eq_getElem?_getD, List.getElem?_append_right (by omega), Nat.sub_self]
          rw [List.set_append_right _ _ (Nat.le_refl _), Nat.sub_self]
          simp only [List.getElem?_cons_zero, Option.getD_some, List.set_cons_zero]
          congr 1
          · apply List.map_congr_left
            intro x hx
            have hxu : x ≠ u := fun e => hnd (e ▸ hx)
            rw [List.count_append, List.count_singleton]
            simp [Ne.symm hxu]
          · rw [List.count_append]
            simp
        · rw [h2 x, List.mem_append, List.mem_singleton]
          constructor
          · exact .inl
          · rintro (h | rfl)
            · exact h
            · exact hul
        · rw [hg, getLast?_append_one]
      · have hlt : cmpL u t < 0 := by
          have := hcmp u hul
          omega
        simp only [if_neg hc]
        have hnew : ∀ x ∈ (grp l').1, cmpL x t < 0 := fun x hx => by
          rcases hmax x hx with rfl | h
          · exact hlt
          · exact cmpL_trans h hlt
        have htn : t ∉ l' := fun hm => by
          have := hnew t ((h2 t).2 hm)
          rw [cmpL_refl] at this
          omega
        refine ⟨?_, fun x => ?_, ?_, by simp⟩
        · rw [List.map_append, h1]
          congr 1
          · apply List.map_congr_left
            intro x hx
            have hxt : x ≠ t := fun e => htn (e ▸ (h2 x).1 hx)
            rw [List.count_append, List.count_singleton]
            simp [Ne.symm hxt]
          · simp only [List.map_cons, List.map_nil]
            rw [List.count_append, List.count_eq_zero_of_not_mem htn]
            simp
        · rw [List.mem_append, List.mem_append, h2 x]
        · rw [List.pairwise_append]
          exact ⟨h3, List.pairwise_singleton _ _, fun a ha b hb => by rw [List.mem_singleton.1 hb]; exact hnew a ha⟩
end Go.Proofs.Ytcchcifcfcpjiaa.J
