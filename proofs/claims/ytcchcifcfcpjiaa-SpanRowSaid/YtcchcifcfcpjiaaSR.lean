/- What can be reached: plain lists; counts in a map. -/
import Derived.Test.YtcchcifcfcpjiaaSQ
set_option linter.unusedVariables false
set_option linter.unusedSimpArgs false
namespace Go.Proofs.Ytcchcifcfcpjiaa.J
open Go.RowKit Go.Proofs.YtcchcifcfcpjiaaW.PrintWords Go.Proofs.YtcchcifcfcpjiaaW.PrintLast Go.Proofs.YtcchcifcfcpjiaaW.PrintMore Go.Proofs.Ytcchcifcfcpjiaa.PJ

/-- There is a way, by one edge or more. -/
inductive Reach (fs : Int → List Int) (a : Int) : Int → Prop
  | edge {b : Int} : b ∈ fs a → Reach fs a b
  | step {b c : Int} : Reach fs a b → c ∈ fs b → Reach fs a c

def budget (fs : Int → List Int) (cnt : Int → Nat) : List Int → Nat
  | [] => 0
  | x :: ks => (if cnt x = 0 then (fs x).length else 0) + budget fs cnt ks
def bump (cnt : Int → Nat) (n : Int) : Int → Nat := fun b => if b = n then cnt b + 1 else cnt b
theorem bump_pos (cnt : Int → Nat) (n b : Int) : 0 < bump cnt n b ↔ b = n ∨ 0 < cnt b := by
  unfold bump
  by_cases h : b = n
  · simp [h]
  · simp [h]
theorem budget_bump_le (fs : Int → List Int) (cnt : Int → Nat) (n : Int) : ∀ ks : List Int, budget fs (bump cnt n) ks ≤ budget fs cnt ks
  | [] => Nat.le_refl _
  | x :: ks => by
    unfold budget
    refine Nat.add_le_add ?_ (budget_bump_le fs cnt n ks)
    unfold bump
    by_cases h : x = n
    · simp [h]
    · simp [h]
theorem budget_bump (fs : Int → List Int) (cnt : Int → Nat) (n : Int) (hn : cnt n = 0) : ∀ ks : List Int, n ∈ ks → (fs n).length + budget fs (bump cnt n) ks ≤ budget fs cnt ks
  | [], h => by cases h
  | x :: ks, h => by
    unfold budget
    by_cases hx : x = n
    · subst hx
      have := budget_bump_le fs cnt x ks
      rw [if_neg (by unfold bump; simp), if_pos hn]
      omega
    · have h2 := budget_bump fs cnt n hn ks ((List.mem_cons.1 h).resolve_left (fun e => hx e.symm))
      have h3 : bump cnt n x = cnt x := by unfold bump; simp [hx]
      rw [h3]
      omega
theorem budget_le (fs : Int → List Int) (cnt : Int → Nat) {m : Nat} (h : ∀ x, (fs x).length ≤ m) : ∀ ks : List Int, budget fs cnt ks ≤ ks.length * m
  | [] => by simp [budget]
  | x :: ks => by
    unfold budget
    have := budget_le fs cnt h ks
    have h2 := h x
    rw [List.length_cons, Nat.add_mul]
    split <;> omega

/-- Where the search stands. -/
structure Srch (fs : Int → List Int) (a : Int) (todo : List Int) (cnt : Int → Nat) : Prop where
  todos : ∀ x ∈ todo, Reach fs a x
  seen : ∀ x, 0 < cnt x → Reach fs a x
  first : ∀ b ∈ fs a, 0 < cnt b ∨ b ∈ todo
  shut : ∀ x, 0 < cnt x → ∀ c ∈ fs x, 0 < cnt c ∨ c ∈ todo

section
variable {fs : Int → List Int} {a n : Int} {todo : List Int} {cnt : Int → Nat}
theorem Srch.start (fs : Int → List Int) (a : Int) : Srch fs a (fs a) (fun _ => 0) :=
  ⟨fun x hx => .edge hx, fun x hx => absurd hx (Nat.lt_irrefl 0), fun b hb => .inr hb, fun x hx => absurd hx (Nat.lt_irrefl 0)⟩
theorem Srch.done (h : Srch fs a [] cnt) (b : Int) : 0 < cnt b ↔ Reach fs a b := by
  refine ⟨h.seen b, fun hr => ?_⟩
  induction hr with
  | edge hb => exact (h.first _ hb).resolve_right (by simp)
  | step _ hc ih => exact (h.shut _ ih _ hc).resolve_right (by simp)
theorem Srch.again (h : Srch fs a (todo ++ [n]) cnt) (hn : 0 < cnt n) : Srch fs a todo (bump cnt n) := by
  have hmem : ∀ c, 0 < cnt c ∨ c ∈ todo ++ [n] → 0 < bump cnt n c ∨ c ∈ todo := fun c hc => by
    rcases hc with hc | hc
    · exact .inl ((bump_pos _ _ _).2 (.inr hc))
    · rcases List.mem_append.1 hc with hc | hc
      · exact .inr hc
      · exact .inl ((bump_pos _ _ _).2 (.inl (List.mem_singleton.1 hc)))
  refine ⟨fun x hx => h.todos x (List.mem_append_left _ hx), fun x hx => ?_, fun b hb => hmem b (h.first b hb), fun x hx c hc => ?_⟩
  · rcases (bump_pos _ _ _).1 hx with rfl | hx
    · exact h.seen _ hn
    · exact h.seen x hx
  · refine hmem c (h.shut x ?_ c hc)
    rcases (bump_pos _ _ _).1 hx with rfl | hx
    · exact hn
    · exact hx
theorem Srch.new (h : Srch fs a (todo ++ [n]) cnt) : Srch fs a (todo ++ fs n) (bump cnt n) := by
  have hn : Reach fs a n := h.todos n (by simp)
  have hmem : ∀ c, 0 < cnt c ∨ c ∈ todo ++ [n] → 0 < bump cnt n c ∨ c ∈ todo ++ fs n := fun c hc => by
    rcases hc with hc | hc
    · exact .inl ((bump_pos _ _ _).2 (.inr hc))
    · rcases List.mem_append.1 hc with hc | hc
      · exact .inr (List.mem_append_left _ hc)
      · exact .inl ((bump_pos _ _ _).2 (.inl (List.mem_singleton.1 hc)))
  refine ⟨fun x hx => ?_, fun x hx => ?_, fun b hb => hmem b (h.first b hb), fun x hx c hc => ?_⟩
  · rcases List.mem_append.1 hx with hx | hx
    · exact h.todos x (List.mem_append_left _ hx)
    · exact .step hn hx
  · rcases (bump_pos _ _ _).1 hx with rfl | hx
    · exact hn
    · exact h.seen x hx
  · rcases (bump_pos _ _ _).1 hx with rfl | hx
    · exact .inr (List.mem_append_right _ hc)
    · exact hmem c (h.shut x hx c hc)
end

/-- A map from nodes to counts; what it has not counts nothing. -/
def Cnt (w : World) (R : Nat) (l : List (Int × Value × Nat)) (c : Nat) (cnt : Int → Nat) : Prop :=
  MapIs (.int .i64) w R l c ∧ (l.map (·.1)).Nodup ∧ ∀ b, getA b l = if cnt b = 0 then none else some (.int .i64 (cnt b : Int))
section
variable {w w' : World} {R : Nat} {l : List (Int × Value × Nat)} {c : Nat} {cnt : Int → Nat}
theorem Cnt.step (h : Cnt w R l c cnt) (hb : w'.heap[R]? = w.heap[R]?) : Cnt w' R l c cnt := ⟨h.1.step hb, h.2⟩
theorem Cnt.new (w : World) : Cnt (w.alloc (.map #[] 0)) w.heap.size [] 0 (fun _ => 0) := ⟨mapIs_new w _, by simp, fun b => by simp [getA_nil]⟩
theorem Cnt.getD (h : Cnt w R l c cnt) (b : Int) : (getA b l).getD (.int .i64 0) = .int .i64 (cnt b : Int) := by
  rw [h.2.2 b]
  split
  · rename_i h0; rw [h0]; rfl
  · rfl
theorem Cnt.bump (h : Cnt w R l c cnt) {n : Int} {v : Value} (hv : v = .int .i64 (cnt n + 1 : Nat)) (hM : MapIs (.int .i64) w' R (putA n v c l) (tick n c l)) : Cnt w' R (putA n v c l) (tick n c l) (bump cnt n) := by
  refine ⟨hM, nodup_putA h.2.1, fun b => ?_⟩
  rw [getA_put]
  unfold J.bump
  by_cases hb : b = n
  · subst hb
    simp [hv]
  · simp only [if_neg hb]
    exact h.2.2 b
end
end Go.Proofs.Ytcchcifcfcpjiaa.J
