/- join.Rows and join.Holds in the printed texts' form (own work, in the place of what is not printed). -/
import Derived.Test.YtcchcifcfcpjiaaJQ
import Derived.Test.YtcchcifcfcpjiaaJZ
set_option linter.unusedVariables false
set_option linter.unusedSimpArgs false
namespace Go.Proofs.Ytcchcifcfcpjiaa.PJ
open Go.RowKit Go.Proofs.YtcchcifcfcpjiaaW.PrintWords Go.Proofs.YtcchcifcfcpjiaaW.PrintLast Go.Proofs.YtcchcifcfcpjiaaW.PrintMore Go.Proofs.Ytcchcifcfcpjiaa.J

/-- A tuple put into a set. -/
def insU (t : List Int) : List (List Int) → List (List Int)
  | [] => [t]
  | y :: ys => if cmpL t y < 0 then t :: y :: ys else if cmpL t y = 0 then y :: ys else y :: insU t ys
/-- The set of a list. -/
def setOf : List (List Int) → List (List Int)
  | [] => []
  | t :: l => insU t (setOf l)
theorem mem_insU (t x : List Int) : ∀ ys : List (List Int), x ∈ insU t ys ↔ x = t ∨ x ∈ ys
  | [] => by simp [insU]
  | y :: ys => by
    unfold insU
    by_cases h1 : cmpL t y < 0
    · rw [if_pos h1, List.mem_cons]
    · rw [if_neg h1]
      by_cases h2 : cmpL t y = 0
      · rw [if_pos h2, cmpL_eq h2]
        simp
      · rw [if_neg h2, List.mem_cons, mem_insU t x ys, List.mem_cons]
        constructor
        · rintro (h | h | h)
          · exact .inr (.inl h)
          · exact .inl h
          · exact .inr (.inr h)
        · rintro (h | h | h)
          · exact .inr (.inl h)
          · exact .inl h
          · exact .inr (.inr h)
theorem up_insU (t : List Int) : ∀ ys : List (List Int), ys.Pairwise (fun a b => cmpL a b < 0) → (insU t ys).Pairwise (fun a b => cmpL a b < 0)
  | [], _ => List.pairwise_singleton _ _
  | y :: ys, h => by
    unfold insU
    have hy := List.pairwise_cons.1 h
    by_cases h1 : cmpL t y < 0
    · rw [if_pos h1]
      refine List.pairwise_cons.2 ⟨fun x hx => ?_, h⟩
      rcases List.mem_cons.1 hx with rfl | hx
      · exact h1
      · exact cmpL_trans h1 (hy.1 x hx)
    · rw [if_neg h1]
      by_cases h2 : cmpL t y = 0
      · rw [if_pos h2]; exact h
      · rw [if_neg h2]
        refine List.pairwise_cons.2 ⟨fun x hx => ?_, up_insU t ys hy.2⟩
        rcases (mem_insU t x ys).1 hx with rfl | hx
        · have := cmpL_anti x y
          omega
        · exact hy.1 x hx
theorem isSet_setOf : ∀ l : List (List Int), IsSet l (setOf l)
  | [] => ⟨List.Pairwise.nil, fun x => Iff.rfl⟩
  | t :: l => ⟨up_insU t _ (isSet_setOf l).up, fun x => by
      show x ∈ insU t (setOf l) ↔ _
      rw [mem_insU, (isSet_setOf l).mem, List.mem_cons]⟩
theorem setOf_eq {rows ys : List (List Int)} (h : IsSet rows ys) : setOf rows = ys := (isSet_setOf rows).uniq h

theorem V_of_tups {w : World} {base : Nat} {ok : Nat → Prop} {v : Value} {xss : List (List Int)} (h : TupsAt w ok v xss) : Kd.V (Kd.slice 3 (Kd.int .i64)) 75 w base ok v xss := by
  obtain ⟨A, c, rfl, hc, hC⟩ := TupsAt.reads h
  refine ⟨A, c, rfl, hc, fun W2 hW => ?_⟩
  obtain ⟨A', c', he, _, hC'⟩ := TupsAt.reads (h.step (w' := W2) (fun k ho hk => hW k ho hk))
  injection he with he1 _ _
  rw [he1]
  exact hC'

/-! ### join_Rows: function 27 -/
def join_Rows.f (k : Nat) (a0_0 : ByteArray) (a0_1 : Int) (l0_2 : List ByteArray) (l0_3 : List (S118)) (a0_4 : ByteArray) (l1 : List (S82)) : Option ((List (List Int)) × Int) :=
  if l0_2.length ≤ 1000 ∧ l0_3.length ≤ 1000 ∧ l1.length ≤ 1000 then
    some (if (decide (a0_1 = 1) && checkB a0_0 a0_4 l0_2 l0_3) = true then (match allRows (varsOf l0_3) l1 l0_3 [[]] with | none => ([], 5) | some rows => (setOf rows, 0)) else ([], 1))
  else none
theorem join_Rows.mono : ∀ a0 a1 a2 a3 a4 a5 k, LeO (join_Rows.f k a0 a1 a2 a3 a4 a5) (join_Rows.f (k + 1) a0 a1 a2 a3 a4 a5) := fun _ _ _ _ _ _ _ => LeO.refl _
theorem join_Rows.calls (k : Nat) (a0_0 : ByteArray) (a0_1 : Int) (A0_2 : Option Addr) (c0_2 : Nat) (l0_2 : List ByteArray) (A0_3 : Option Addr) (c0_3 : Nat) (l0_3 : List (S118)) (a0_4 : ByteArray) (A1 : Option Addr) (c1 : Nat) (l1 : List (S82)) (r1 : List (List Int)) (r2 : Int) (w : World) (hr0_2 : Kd.C Kd.string w A0_2 l0_2.length l0_2) (hc0_2 : l0_2.length ≤ c0_2) (hr0_3 : Kd.C k118 w A0_3 l0_3.length l0_3) (hc0_3 : l0_3.length ≤ c0_3) (hr1 : Kd.C k82 w A1 l1.length l1) (hc1 : l1.length ≤ c1) (h : join_Rows.f k a0_0 a0_1 l0_2 l0_3 a0_4 l1 = some (r1, r2)) :
    Calls Try.prog 27 #[.agg #[.string a0_0, .int .i64 a0_1, .slice A0_2 l0_2.length c0_2, .slice A0_3 l0_3.length c0_3, .string a0_4], .slice A1 l1.length c1] w fun e w' => ∃ v0_ : Value, e = .returned (.tuple #[v0_, .int .i64 r2]) ∧ Kd.V (Kd.slice 3 (Kd.int .i64)) 75 w' w.heap.size (fun k_ => (w.heap.size ≤ k_)) v0_ r1 ∧ Below w.heap.size w w' := by
  unfold join_Rows.f at h
  split at h
  · rename_i hsz
    obtain ⟨ho, ha, he⟩ := hsz
    have hvl := varsOf_length l0_3
    obtain ⟨K1, hb1⟩ := bad_val a0_0 a0_4 a0_1 l0_2 l0_3 ha ho
    obtain ⟨K2, hv2⟩ := qvars_val a0_0 a0_4 a0_1 l0_2 l0_3 ha
    have hb := hb1 (max K1 K2) (by omega)
    have hv := hv2 (max K1 K2) (by omega)
    injection h with h
    by_cases hg : (decide (a0_1 = 1) && checkB a0_0 a0_4 l0_2 l0_3) = true
    · rw [if_pos hg] at h
      rw [hg] at hb
      refine (rows_good w hr0_2 hc0_2 hr0_3 hc0_3 hr1 hb hv (idx_rounds _ (by omega)) he ha).mono ?_
      intro e w' hp
      cases hall : allRows (varsOf l0_3) l1 l0_3 [[]] with
      | none =>
        rw [hall] at h hp
        injection h with h1 h2
        subst h1 h2
        exact ⟨.slice none 0 0, hp.1, Kd.V_nil _ _ _ _ _, hp.2⟩
      | some rows =>
        rw [hall] at h hp
        injection h with h1 h2
        obtain ⟨⟨v', ys, rfl, hys, hty⟩, hbw⟩ := hp
        rw [setOf_eq hys] at h1
        subst h1 h2
        exact ⟨v', rfl, V_of_tups hty, hbw⟩
    · rw [if_neg hg] at h
      injection h with h1 h2
      subst h1 h2
      have hg' : (decide (a0_1 = 1) && checkB a0_0 a0_4 l0_2 l0_3) = false := by simpa using hg
      rw [hg'] at hb
      refine (rows_bad w (es := l1) hr0_2 hc0_2 hr0_3 hc0_3 hb).mono ?_
      rintro e w' ⟨rfl, hbw⟩
      exact ⟨.slice none 0 0, rfl, Kd.V_nil _ _ _ _ _, hbw⟩
  · cases h

/-! ### join_Holds: function 35 -/
def join_Holds.f (k : Nat) (a0_0 : ByteArray) (a0_1 : Int) (l0_2 : List ByteArray) (l0_3 : List (S118)) (a0_4 : ByteArray) (l1 : List (S82)) (l2 : List Int) : Option (Bool) :=
  if l0_2.length ≤ 1000 ∧ l0_3.length ≤ 1000 ∧ l1.length ≤ 1000 then
    some ((decide (a0_1 = 1) && checkB a0_0 a0_4 l0_2 l0_3) && (decide (l2.length = (varsOf l0_3).length) && holdsB l1 l0_3 l2))
  else none
theorem join_Holds.mono : ∀ a0 a1 a2 a3 a4 a5 a6 k, LeO (join_Holds.f k a0 a1 a2 a3 a4 a5 a6) (join_Holds.f (k + 1) a0 a1 a2 a3 a4 a5 a6) := fun _ _ _ _ _ _ _ _ => LeO.refl _
theorem join_Holds.calls (k : Nat) (a0_0 : ByteArray) (a0_1 : Int) (A0_2 : Option Addr) (c0_2 : Nat) (l0_2 : List ByteArray) (A0_3 : Option Addr) (c0_3 : Nat) (l0_3 : List (S118)) (a0_4 : ByteArray) (A1 : Option Addr) (c1 : Nat) (l1 : List (S82)) (A2 : Option Addr) (c2 : Nat) (l2 : List Int) (r : Bool) (w : World) (hr0_2 : Kd.C Kd.string w A0_2 l0_2.length l0_2) (hc0_2 : l0_2.length ≤ c0_2) (hr0_3 : Kd.C k118 w A0_3 l0_3.length l0_3) (hc0_3 : l0_3.length ≤ c0_3) (hr1 : Kd.C k82 w A1 l1.length l1) (hc1 : l1.length ≤ c1) (hr2 : Kd.C (Kd.int .i64) w A2 l2.length l2) (hc2 : l2.length ≤ c2) (h : join_Holds.f k a0_0 a0_1 l0_2 l0_3 a0_4 l1 l2 = some r) :
    Calls Try.prog 35 #[.agg #[.string a0_0, .int .i64 a0_1, .slice A0_2 l0_2.length c0_2, .slice A0_3 l0_3.length c0_3, .string a0_4], .slice A1 l1.length c1, .slice A2 l2.length c2] w fun e w' => e = .returned (.bool r) ∧ Below w.heap.size w w' := by
  unfold join_Holds.f at h
  split at h
  · rename_i hsz
    obtain ⟨ho, ha, he⟩ := hsz
    have hvl := varsOf_length l0_3
    obtain ⟨K1, hb1⟩ := bad_val a0_0 a0_4 a0_1 l0_2 l0_3 ha ho
    obtain ⟨K2, hv2⟩ := qvars_val a0_0 a0_4 a0_1 l0_2 l0_3 ha
    have hb := hb1 (max K1 K2) (by omega)
    have hv := hv2 (max K1 K2) (by omega)
    injection h with h
    subst h
    refine (holds_calls w hr0_2 hc0_2 hr0_3 hc0_3 hr1 hr2 hb hv (idx_rounds _ (by omega)) he ha).mono ?_
    rintro e w' ⟨rfl, hbw⟩
    exact ⟨by rw [Bool.not_not], hbw⟩
  · cases h
end Go.Proofs.Ytcchcifcfcpjiaa.PJ
