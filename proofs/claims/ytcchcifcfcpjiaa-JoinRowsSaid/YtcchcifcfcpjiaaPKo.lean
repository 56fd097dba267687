/- Tuples put into a set, and read (own work). -/
import Derived.Test.YtcchcifcfcpjiaaJK3
import Derived.Test.YtcchcifcfcpjiaaJZ
set_option linter.unusedVariables false
set_option linter.unusedSimpArgs false
namespace Go.Proofs.Ytcchcifcfcpjiaa.PJ
open Go.RowKit Go.Proofs.YtcchcifcfcpjiaaW.PrintWords Go.Proofs.YtcchcifcfcpjiaaW.PrintLast Go.Proofs.YtcchcifcfcpjiaaW.PrintMore Go.Proofs.Ytcchcifcfcpjiaa.J

/-- A tuple put into a set. -/
def insU (t : List Int) : List (List Int) → List (List Int)
  | [] => [t]
  | y :: ys => if cmpL t y < 0 then t :: y :: ys else if cmpL t y = 0 then y :: ys else y :: insU t ys
/-- The set of a list. -/
def setOf : List (List Int) → List (List Int)
  | [] => []
  | t :: l => insU t (setOf l)
theorem mem_insU (t x : List Int) : ∀ ys : List (List Int), x ∈ insU t ys ↔ x = t ∨ x ∈ ys
  | [] => by simp [insU]
  | y :: ys => by
    unfold insU
    by_cases h1 : cmpL t y < 0
    · rw [if_pos h1, List.mem_cons]
    · rw [if_neg h1]
      by_cases h2 : cmpL t y = 0
      · rw [if_pos h2, cmpL_eq h2]
        simp
      · rw [if_neg h2, List.mem_cons, mem_insU t x ys, List.mem_cons]
        constructor
        · rintro (h | h | h)
          · exact .inr (.inl h)
          · exact .inl h
          · exact .inr (.inr h)
        · rintro (h | h | h)
          · exact .inr (.inl h)
          · exact .inl h
          · exact .inr (.inr h)
theorem up_insU (t : List Int) : ∀ ys : List (List Int), ys.Pairwise (fun a b => cmpL a b < 0) → (insU t ys).Pairwise (fun a b => cmpL a b < 0)
  | [], _ => List.pairwise_singleton _ _
  | y :: ys, h => by
    unfold insU
    have hy := List.pairwise_cons.1 h
    by_cases h1 : cmpL t y < 0
    · rw [if_pos h1]
      refine List.pairwise_cons.2 ⟨fun x hx => ?_, h⟩
      rcases List.mem_cons.1 hx with rfl | hx
      · exact h1
      · exact cmpL_trans h1 (hy.1 x hx)
    · rw [if_neg h1]
      by_cases h2 : cmpL t y = 0
      · rw [if_pos h2]; exact h
      · rw [if_neg h2]
        refine List.pairwise_cons.2 ⟨fun x hx => ?_, up_insU t ys hy.2⟩
        rcases (mem_insU t x ys).1 hx with rfl | hx
        · have := cmpL_anti x y
          omega
        · exact hy.1 x hx
theorem isSet_setOf : ∀ l : List (List Int), IsSet l (setOf l)
  | [] => ⟨List.Pairwise.nil, fun x => Iff.rfl⟩
  | t :: l => ⟨up_insU t _ (isSet_setOf l).up, fun x => by
      show x ∈ insU t (setOf l) ↔ _
      rw [mem_insU, (isSet_setOf l).mem, List.mem_cons]⟩
theorem setOf_eq {rows ys : List (List Int)} (h : IsSet rows ys) : setOf rows = ys := (isSet_setOf rows).uniq h

theorem V_of_tups {w : World} {base : Nat} {ok : Nat → Prop} {v : Value} {xss : List (List Int)} (h : TupsAt w ok v xss) : Kd.V (Kd.slice 3 (Kd.int .i64)) 75 w base ok v xss := by
  obtain ⟨A, c, rfl, hc, hC⟩ := TupsAt.reads h
  refine ⟨A, c, rfl, hc, fun W2 hW => ?_⟩
  obtain ⟨A', c', he, _, hC'⟩ := TupsAt.reads (h.step (w' := W2) (fun k ho hk => hW k ho hk))
  injection he with he1 _ _
  rw [he1]
  exact hC'
end Go.Proofs.Ytcchcifcfcpjiaa.PJ
