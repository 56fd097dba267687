/- span.Pairs: its list of pairs, plain. -/
import Derived.Test.YtcchcifcfcpjiaaSR
set_option linter.unusedVariables false
set_option linter.unusedSimpArgs false
namespace Go.Proofs.Ytcchcifcfcpjiaa.J
open Go.RowKit Go.Proofs.YtcchcifcfcpjiaaW.PrintWords Go.Proofs.YtcchcifcfcpjiaaW.PrintLast Go.Proofs.YtcchcifcfcpjiaaW.PrintMore Go.Proofs.Ytcchcifcfcpjiaa.PJ

theorem eq_of_pairwise_ne {α β : Type} (f : α → β) : ∀ {l : List α}, l.Pairwise (fun e g => f e ≠ f g) → ∀ {x y : α}, x ∈ l → y ∈ l → f x = f y → x = y
  | [], _, _, _, hx, _, _ => by cases hx
  | z :: l, h, x, y, hx, hy, he => by
    rw [List.pairwise_cons] at h
    rcases List.mem_cons.1 hx with h1 | h1
    · rcases List.mem_cons.1 hy with h2 | h2
      · rw [h1, h2]
      · exact absurd (h1 ▸ he) (h.1 y h2)
    · rcases List.mem_cons.1 hy with h2 | h2
      · exact absurd (h2 ▸ he.symm) (h.1 x h1)
      · exact eq_of_pairwise_ne f h.2 h1 h2 he
theorem pairwise_of_keys {l : List (Int × Value × Nat)} (h : (l.map (·.1)).Nodup) : l.Pairwise (fun e g => e.1 ≠ g.1) := by
  rw [List.nodup_iff_pairwise_ne, List.pairwise_map] at h
  exact h
/-- The pairs of some nodes are all there, once each. -/
structure PairsInv (fs : Int → List Int) (ns : List Int) (xss : List (List Int)) : Prop where
  nod : xss.Nodup
  sound : ∀ t ∈ xss, ∃ a ∈ ns, ∃ b, t = [a, b] ∧ Reach fs a b
  full : ∀ a ∈ ns, ∀ b, Reach fs a b → [a, b] ∈ xss
/-- .. and of one node more those that came. -/
def HalfPairs (fs : Int → List Int) (ns : List Int) (a : Int) (l : List (Int × Value × Nat)) (seen : Array Nat) (xss : List (List Int)) : Prop :=
  ∃ (old : List (List Int)) (new : List Int), xss = old ++ new.map (fun b => [a, b]) ∧ PairsInv fs ns old ∧ new.Nodup ∧ ∀ b, b ∈ new ↔ ∃ e ∈ l, e.1 = b ∧ seen.contains e.2.2 = true

section
variable {fs : Int → List Int} {ns : List Int} {a : Int} {l : List (Int × Value × Nat)} {seen : Array Nat} {xss : List (List Int)}
theorem PairsInv.start (fs : Int → List Int) : PairsInv fs [] [] := ⟨List.nodup_nil, fun t h => (by cases h), fun a h => (by cases h)⟩
theorem HalfPairs.start (h : PairsInv fs ns xss) (a : Int) (l : List (Int × Value × Nat)) : HalfPairs fs ns a l #[] xss :=
  ⟨xss, [], by simp, h, List.nodup_nil, fun b => by simp⟩
theorem HalfPairs.step (h : HalfPairs fs ns a l seen xss) (hn : (l.map (·.1)).Nodup) {e : Int × Value × Nat} (he : e ∈ l) (hs : seen.contains e.2.2 = false) (hst : l.Pairwise (fun e f => e.2.2 ≠ f.2.2)) : HalfPairs fs ns a l (seen.push e.2.2) (xss ++ [[a, e.1]]) := by
  obtain ⟨old, new, h1, h2, h3, h4⟩ := h
  refine ⟨old, new ++ [e.1], by rw [h1]; simp, h2, ?_, fun b => ?_⟩
  · rw [List.nodup_append]
    refine ⟨h3, by simp, fun x hx y hy => ?_⟩
    rw [List.mem_singleton] at hy
    subst hy
    rintro rfl
    obtain ⟨e', he', h5, h6⟩ := (h4 e.1).1 hx
    have h7 : e' = e := eq_of_pairwise_ne (fun e : Int × Value × Nat => e.1) (pairwise_of_keys hn) he' he h5
    rw [h7, hs] at h6
    cases h6
  · rw [List.mem_append, h4, List.mem_singleton]
    constructor
    · rintro (⟨e', he', h5, h6⟩ | rfl)
      · exact ⟨e', he', h5, by rw [Array.contains_push, h6]; simp⟩
      · exact ⟨e, he, rfl, by simp⟩
    · rintro ⟨e', he', h5, h6⟩
      rw [Array.contains_push, Bool.or_eq_true] at h6
      rcases h6 with h6 | h6
      · exact .inl ⟨e', he', h5, h6⟩
      · have h7 : e' = e := eq_of_pairwise_ne (fun e : Int × Value × Nat => e.2.2) hst he' he (by simpa using h6)
        rw [h7] at h5
        exact .inr h5.symm
/-- All came. -/
theorem HalfPairs.done (h : HalfPairs fs ns a l seen xss) (h0 : leftN l seen = 0) (ha : a ∉ ns) (hr : ∀ b, b ∈ l.map (·.1) ↔ Reach fs a b) : PairsInv fs (ns ++ [a]) xss := by
  obtain ⟨old, new, h1, h2, h3, h4⟩ := h
  have hz := leftN_zero h0
  have hnew : ∀ b, b ∈ new ↔ Reach fs a b := fun b => by
    rw [h4, ← hr]
    constructor
    · rintro ⟨e, he, rfl, _⟩
      exact List.mem_map_of_mem he
    · intro hb
      obtain ⟨e, he, rfl⟩ := List.mem_map.1 hb
      exact ⟨e, he, rfl, hz e he⟩
  subst h1
  refine ⟨?_, fun t ht => ?_, fun x hx b hb => ?_⟩
  · rw [List.nodup_append]
    refine ⟨h2.nod, ?_, fun t ht u hu => ?_⟩
    · rw [List.nodup_iff_pairwise_ne, List.pairwise_map]
      rw [List.nodup_iff_pairwise_ne] at h3
      exact h3.imp (fun h e => h (by simpa using e))
    · rintro rfl
      obtain ⟨x, hx, b, h5, _⟩ := h2.sound t ht
      obtain ⟨b2, _, h6⟩ := List.mem_map.1 hu
      rw [h5] at h6
      injection h6 with h6
      exact ha (h6 ▸ hx)
  · rcases List.mem_append.1 ht with ht | ht
    · obtain ⟨x, hx, b, h5, h6⟩ := h2.sound t ht
      exact ⟨x, List.mem_append_left _ hx, b, h5, h6⟩
    · obtain ⟨b, hb, rfl⟩ := List.mem_map.1 ht
      exact ⟨a, by simp, b, rfl, (hnew b).1 hb⟩
  · rcases List.mem_append.1 hx with hx | hx
    · exact List.mem_append_left _ (h2.full x hx b hb)
    · rw [List.mem_singleton] at hx
      subst hx
      exact List.mem_append_right _ (List.mem_map.2 ⟨b, (hnew b).2 hb, rfl⟩)
/-- Each is a pair that the statement's bound counts. -/
theorem HalfPairs.sound (h : HalfPairs fs ns a l seen xss) (ha : a ∉ ns) (hr : ∀ b, b ∈ l.map (·.1) ↔ Reach fs a b) : xss.Nodup ∧ ∀ t ∈ xss, ∃ a b, t = [a, b] ∧ Reach fs a b := by
  obtain ⟨old, new, h1, h2, h3, h4⟩ := h
  have hnew : ∀ b, b ∈ new → Reach fs a b := fun b hb => by
    obtain ⟨e, he, rfl, _⟩ := (h4 b).1 hb
    exact (hr _).1 (List.mem_map_of_mem he)
  subst h1
  refine ⟨?_, fun t ht => ?_⟩
  · rw [List.nodup_append]
    refine ⟨h2.nod, ?_, fun t ht u hu => ?_⟩
    · rw [List.nodup_iff_pairwise_ne, List.pairwise_map]
      rw [List.nodup_iff_pairwise_ne] at h3
      exact h3.imp (fun h e => h (by simpa using e))
    · rintro rfl
      obtain ⟨x, hx, b, h5, _⟩ := h2.sound t ht
      obtain ⟨b2, _, h6⟩ := List.mem_map.1 hu
      rw [h5] at h6
      injection h6 with h6
      exact ha (h6 ▸ hx)
  · rcases List.mem_append.1 ht with ht | ht
    · obtain ⟨x, hx, b, h5, h6⟩ := h2.sound t ht
      exact ⟨x, b, h5, h6⟩
    · obtain ⟨b, hb, rfl⟩ := List.mem_map.1 ht
      exact ⟨a, b, rfl, hnew b hb⟩
end
end Go.Proofs.Ytcchcifcfcpjiaa.J
