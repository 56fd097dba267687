/- A region that draws its order and whose last operation waits for all others: what is held till then need not be held behind it. -/
import Derived.OrdersHeld
import Derived.Deep.RegionHeld
set_option linter.unusedVariables false
set_option linter.unusedSimpArgs false
namespace Go.Proofs.Ytcchcifcfcpjiaa.J
open Go

variable {P : Program} {Q : Exit → Act → World → Prop} {md : Region.Mode}

/-- What is asked ahead of the last operation. -/
def PopQ (P : Program) (last : Oper) (Q : Exit → Act → World → Prop) : Exit → Act → World → Prop
  | .normal, a, w => last.wp P a w (Q .normal) Q
  | e, a, w => Q e a w

theorem wp_of_pop {last o : Oper} {K : Act → World → Prop} {a : Act} {w : World} (hh : o.wp P a w K (PopQ P last Q)) : o.wp P a w K Q := by
  unfold Oper.wp at *
  generalize (execOp a.eval o).run P w = r at *
  cases r with
  | ok n w' =>
    cases n <;> simp only [Oper.upon] at hh ⊢ <;>
      first
        | exact hh
        | exact Calls.mono hh (fun e w'' he => by cases e <;> exact he)
        | exact Rows.mono hh (fun _ _ he => he)
  | halt x w' => cases x <;> simp only [Oper.upon] at hh ⊢ <;> exact hh

theorem wpOp_of_pop {ops' : Array Oper} {last : Oper} {K K' : Act → World → Prop} {i : Nat} {a : Act} {w : World} (hi : i < ops'.size) (hg : ∀ o ∈ ops'.toList, o.guard = none)
    (hK : ∀ a w, K a w → K' a w) (h : wpOp P ops' (PopQ P last Q) i K a w) : wpOp P (ops'.push last) Q i K' a w := by
  have h1 : ops'[i]? = some ops'[i] := Array.getElem?_eq_getElem hi
  have h2 : (ops'.push last)[i]? = some ops'[i] := by rw [Array.getElem?_push_lt hi]
  have h3 : ops'[i].guard = none := hg _ (by simp [Array.mem_toList_iff])
  unfold wpOp at *
  rw [h1] at h
  rw [h2]
  have hw : ∀ (ops : Array Oper) (t : Array Value), Region.wanted ops'[i] (yielded ops t) = true := fun ops t => by simp [Region.wanted, h3]
  simp only [hw, if_true] at h ⊢
  rcases h with h | ⟨h, h5⟩
  · exact .inl (Oper.wp_mono hK (wp_of_pop h))
  · exact .inr ⟨h, h5⟩

theorem getD_replicate_false (m j : Nat) : (Array.replicate m false).getD j false = false := by
  rcases Nat.lt_or_ge j m with h | h
  · simp [h]
  · simp [h]
theorem getD_in {listed : Array Bool} {i : Nat} (hi : i < listed.size) (h : listed.getD i false = false) : listed.getD i true = false := by
  simp [hi] at h ⊢; exact h
theorem getD_push_lt {l : Array Bool} {i : Nat} {b d : Bool} (h : i < l.size) : (l.push b).getD i d = l.getD i d := by
  simp only [Array.getD_eq_getD_getElem?]
  rw [Array.getElem?_push_lt h, Array.getElem?_eq_getElem h]

section
variable {ops' : Array Oper} {last : Oper} {listed : Array Bool}
theorem ready_push_lt (hsz : listed.size = ops'.size) (hb : ∀ (i : Nat) (o : Oper), ops'[i]? = some o → ∀ e ∈ o.after, e.on < i) {i : Nat} (hi : i < ops'.size) :
    i ∈ Region.ready md (ops'.push last) (listed.push false) ↔ i ∈ Region.ready md ops' listed := by
  rw [mem_ready, mem_ready, getD_push_lt (by omega), Array.getElem?_push_lt hi]
  constructor
  · rintro ⟨h1, o, h2, h3⟩
    refine ⟨h1, o, by rw [← h2, Array.getElem?_eq_getElem hi], fun e he hbd => ?_⟩
    have h4 := h3 e he hbd
    rwa [getD_push_lt (by have := hb i o (by rw [← h2, Array.getElem?_eq_getElem hi]) e he; omega)] at h4
  · rintro ⟨h1, o, h2, h3⟩
    rw [Array.getElem?_eq_getElem hi] at h2
    refine ⟨h1, o, h2, fun e he hbd => ?_⟩
    rw [getD_push_lt (by have := hb i o (by rw [← h2, Array.getElem?_eq_getElem hi]) e he; omega)]
    exact h3 e he hbd

theorem all_listed (hsz : listed.size = ops'.size) (hb : ∀ (i : Nat) (o : Oper), ops'[i]? = some o → ∀ e ∈ o.after, e.on < i) (hr : Region.ready md ops' listed = []) :
    ∀ n i, i ≤ n → i < ops'.size → listed.getD i false = true := by
  intro n
  induction n with
  | zero =>
    intro i hi hs
    cases hc : listed.getD i false with
    | true => rfl
    | false =>
      exfalso
      have : i ∈ Region.ready md ops' listed := mem_ready.2 ⟨getD_in (by omega) hc, _, Array.getElem?_eq_getElem hs, fun e he _ => absurd (hb i _ (Array.getElem?_eq_getElem hs) e he) (by omega)⟩
      rw [hr] at this
      cases this
  | succ n ih =>
    intro i hi hs
    cases hc : listed.getD i false with
    | true => rfl
    | false =>
      exfalso
      have : i ∈ Region.ready md ops' listed := mem_ready.2 ⟨getD_in (by omega) hc, _, Array.getElem?_eq_getElem hs, fun e he _ => by
        have := hb i _ (Array.getElem?_eq_getElem hs) e he
        exact ih e.on (by omega) (by omega)⟩
      rw [hr] at this
      cases this

def Closed (md : Region.Mode) (ops' : Array Oper) (listed : Array Bool) : Prop := ∀ (j : Nat) (o : Oper), ops'[j]? = some o → listed.getD j false = true → ∀ e ∈ o.after, Region.binds md e = true → listed.getD e.on false = true
theorem Closed.set {i : Nat} (hc : Closed md ops' listed) (hi : i ∈ Region.ready md ops' listed) : Closed md ops' (listed.setIfInBounds i true) := by
  obtain ⟨h0, oi, ho, h3⟩ := mem_ready.1 hi
  have hmono : ∀ j, listed.getD j false = true → (listed.setIfInBounds i true).getD j false = true := fun j hj => by
    simp only [Array.getD_eq_getD_getElem?, Array.getElem?_setIfInBounds] at hj ⊢
    by_cases h : i = j
    · subst h
      rw [if_pos rfl]
      split <;> simp_all
    · rw [if_neg h]; exact hj
  intro j o hj hl e he hbd
  by_cases h : i = j
  · subst h
    rw [hj] at ho
    injection ho with ho
    subst ho
    exact hmono _ (h3 e he hbd)
  · refine hmono _ (hc j o hj ?_ e he hbd)
    simp only [Array.getD_eq_getD_getElem?, Array.getElem?_setIfInBounds] at hl ⊢
    rwa [if_neg h] at hl
theorem all_of_last (hc : Closed md ops' listed) (hw : ∀ i, i < ops'.size → (∃ e ∈ last.after, Region.binds md e = true ∧ e.on = i) ∨ ∃ j o, i < j ∧ ops'[j]? = some o ∧ ∃ e ∈ o.after, Region.binds md e = true ∧ e.on = i)
    (h3 : ∀ e ∈ last.after, Region.binds md e = true → listed.getD e.on false = true) : ∀ n i, ops'.size - i ≤ n → i < ops'.size → listed.getD i false = true := by
  intro n
  induction n with
  | zero => intro i h1 h2; omega
  | succ n ih =>
    intro i h1 h2
    rcases hw i h2 with ⟨e, he, hbd, rfl⟩ | ⟨j, o, hij, ho, e, he, hbd, rfl⟩
    · exact h3 e he hbd
    · exact hc j o ho (ih j (by omega) (Array.getElem?_eq_some_iff.1 ho).1) e he hbd

theorem wpAny_push (hg : ∀ o ∈ ops'.toList, o.guard = none) (hgl : last.guard = none) (hb : ∀ (i : Nat) (o : Oper), ops'[i]? = some o → ∀ e ∈ o.after, e.on < i)
    (hw : ∀ i, i < ops'.size → (∃ e ∈ last.after, Region.binds md e = true ∧ e.on = i) ∨ ∃ j o, i < j ∧ ops'[j]? = some o ∧ ∃ e ∈ o.after, Region.binds md e = true ∧ e.on = i) (hbl : ∀ e ∈ last.after, e.on < ops'.size) :
    ∀ (fuel : Nat) (listed : Array Bool) (a : Act) (w : World), listed.size = ops'.size → Closed md ops' listed → wpAny P md ops' (PopQ P last Q) fuel listed a w → wpAny P md (ops'.push last) Q (fuel + 1) (listed.push false) a w := by
  have hm : ops'.size < (ops'.push last).size := by simp
  have hlast : (ops'.push last)[ops'.size]? = some last := by simp
  have key : ∀ (fuel : Nat) (listed : Array Bool) (a : Act) (w : World), listed.size = ops'.size → Region.ready md ops' listed = [] → PopQ P last Q .normal a w → wpAny P md (ops'.push last) Q (fuel + 1) (listed.push false) a w := by
    intro fuel listed a w hsz hr hQ
    have hall := fun i hi => all_listed hsz hb hr i i (Nat.le_refl _) hi
    have hmr : ops'.size ∈ Region.ready md (ops'.push last) (listed.push false) := mem_ready.2 ⟨by simp [Array.getD_eq_getD_getElem?, ← hsz], last, hlast, fun e he _ => by
      rw [getD_push_lt (by have := hbl e he; omega)]
      exact hall _ (hbl e he)⟩
    refine ⟨fun h => absurd hmr (by rw [h]; simp), fun i hi => ?_⟩
    have hil : i < (ops'.push last).size := by
      obtain ⟨_, o, ho, _⟩ := mem_ready.1 hi
      exact (Array.getElem?_eq_some_iff.1 ho).1
    have hie : i = ops'.size := by
      rcases Nat.lt_or_ge i ops'.size with h | h
      · rw [ready_push_lt hsz hb h, hr] at hi; cases hi
      · simp at hil; omega
    subst hie
    have hrn : Region.ready md (ops'.push last) ((listed.push false).setIfInBounds ops'.size true) = [] := by
      apply List.eq_nil_iff_forall_not_mem.2
      intro j hj
      obtain ⟨hj1, o, ho, _⟩ := mem_ready.1 hj
      have hjl := (Array.getElem?_eq_some_iff.1 ho).1
      simp at hjl
      rcases Nat.lt_or_ge j ops'.size with h | h
      · have := hall j h
        simp only [Array.getD_eq_getD_getElem?, Array.getElem?_setIfInBounds, Array.getElem?_push, hsz] at hj1 this
        rw [if_neg (by omega), if_neg (by omega)] at hj1
        have hjj : j < listed.size := by omega
        rw [Array.getElem?_eq_getElem hjj] at hj1 this
        simp at hj1 this
        rw [this] at hj1
        cases hj1
      · have : j = ops'.size := by omega
        subst this
        simp [Array.getD_eq_getD_getElem?, Array.getElem?_setIfInBounds, hsz] at hj1
    unfold wpOp
    rw [hlast]
    simp only [Region.wanted, hgl, if_true]
    refine .inl (Oper.wp_mono (fun a w h => ?_) hQ)
    cases fuel with
    | zero => exact ⟨hrn, h⟩
    | succ f => exact ⟨fun _ => h, fun i hi => by rw [hrn] at hi; cases hi⟩
  intro fuel
  induction fuel with
  | zero =>
    intro listed a w hsz hc h
    exact key 0 listed a w hsz h.1 h.2
  | succ fuel ih =>
    intro listed a w hsz hc h
    by_cases hr : Region.ready md ops' listed = []
    · exact key _ listed a w hsz hr (h.1 hr)
    · obtain ⟨j, hj⟩ := List.exists_mem_of_ne_nil _ hr
      have hlt : ∀ i, i ∈ Region.ready md ops' listed → i < ops'.size := fun i hi => by
        obtain ⟨_, o, ho, _⟩ := mem_ready.1 hi
        exact (Array.getElem?_eq_some_iff.1 ho).1
      refine ⟨fun h0 => ?_, fun i hi => ?_⟩
      · have := (ready_push_lt (last := last) hsz hb (hlt j hj)).2 hj
        rw [h0] at this
        cases this
      · have hil : i < ops'.size := by
          obtain ⟨_, o, ho, h3⟩ := mem_ready.1 hi
          have hi2 := (Array.getElem?_eq_some_iff.1 ho).1
          simp at hi2
          rcases Nat.lt_or_ge i ops'.size with h | h
          · exact h
          · exfalso
            have he : i = ops'.size := by omega
            subst he
            rw [hlast] at ho
            injection ho with ho
            subst ho
            have h4 := all_of_last hc hw (fun e he hbd => by
              have h4 := h3 e he hbd
              rwa [getD_push_lt (by have := hbl e he; omega)] at h4) _ j (Nat.le_refl _) (hlt j hj)
            have h5 := (mem_ready.1 hj).1
            have h6 : listed.getD j true = listed.getD j false := by
              have : j < listed.size := by have := hlt j hj; omega
              simp [Array.getD_eq_getD_getElem?, Array.getElem?_eq_getElem this]
            rw [h6, h4] at h5
            cases h5
        have hir := (ready_push_lt (last := last) hsz hb hil).1 hi
        refine wpOp_of_pop hil hg (fun a w hk => ?_) (h.2 i hir)
        have h7 := ih (listed.setIfInBounds i true) a w (by simp [hsz]) (hc.set hir) hk
        have h8 : (listed.setIfInBounds i true).push false = (listed.push false).setIfInBounds i true := by
          apply Array.ext_getElem?
          intro k
          simp only [Array.getElem?_push, Array.getElem?_setIfInBounds, Array.size_setIfInBounds, Array.size_push]
          by_cases hk1 : k = listed.size
          · subst hk1
            rw [if_pos rfl, if_neg (by omega), if_pos rfl]
          · rw [if_neg hk1, if_neg hk1]
            by_cases hki : i = k
            · subst hki
              rw [if_pos rfl, if_pos rfl, if_pos (by omega), if_pos (by omega)]
            · rw [if_neg hki, if_neg hki]
        rw [h8] at h7
        exact h7

def popOk (ops' : Array Oper) (last : Oper) : Bool :=
  ops'.all (fun o => o.guard.isNone) && last.guard.isNone && (List.range ops'.size).all (fun i => match ops'[i]? with | some o => o.after.all (fun e => decide (e.on < i)) | none => true) &&
    (List.range ops'.size).all (fun i => (last.after.any fun e => Region.binds .any e && e.on == i) || (List.range ops'.size).any (fun j => decide (i < j) && match ops'[j]? with | some o => o.after.any (fun e => Region.binds .any e && e.on == i) | none => false)) && last.after.all (fun e => decide (e.on < ops'.size))

theorem wp_region_held_pop {id : Nat} {S : World → Prop} {a : Act} {w : World} {ops : Array Oper} (hops : ops = ops'.push last) (hm : P.follows .mixedOrders = true) (hk : popOk ops' last = true) (hS : S w.drew)
    (h : S w.drew → wpAnyH P .any ops' (PopQ P last Q) S ops'.size (Array.replicate ops'.size false) a w.drew) : (Code.region id ops true).wp P Q a w := by
  subst hops
  unfold popOk at hk
  simp only [Bool.and_eq_true] at hk
  obtain ⟨⟨⟨⟨k1, k2⟩, k3⟩, k4⟩, k5⟩ := hk
  refine wp_region_any hm ?_
  rw [Array.size_push, Array.replicate_succ] 
  refine wpAny_push ?_ ?_ ?_ ?_ ?_ _ _ _ _ (by simp) (fun j o _ hl => by rw [getD_replicate_false] at hl; cases hl) (wpAny_of_held _ _ _ _ (h hS))
  · intro o ho
    have := Array.all_eq_true'.1 k1 o (by simpa using ho)
    simpa using this
  · simpa using k2
  · intro i o ho e he
    have hi := (Array.getElem?_eq_some_iff.1 ho).1
    have := List.all_eq_true.1 k3 i (List.mem_range.2 hi)
    rw [ho] at this
    have := Array.all_eq_true'.1 this e he
    simpa using this
  · intro i hi
    have := List.all_eq_true.1 k4 i (List.mem_range.2 hi)
    rcases Bool.or_eq_true _ _ |>.mp this with this | this
    · obtain ⟨e, he, hh⟩ := Array.any_eq_true'.1 this
      simp only [Bool.and_eq_true, beq_iff_eq] at hh
      exact .inl ⟨e, he, hh.1, hh.2⟩
    · obtain ⟨j, _, hh⟩ := List.any_eq_true.1 this
      rw [Bool.and_eq_true] at hh
      obtain ⟨h1, h2⟩ := hh
      split at h2
      · rename_i o ho
        obtain ⟨e, he, hh⟩ := Array.any_eq_true'.1 h2
        simp only [Bool.and_eq_true, beq_iff_eq] at hh
        exact .inr ⟨j, o, by simpa using h1, ho, e, he, hh.1, hh.2⟩
      · cases h2
  · intro e he
    have := Array.all_eq_true'.1 k5 e he
    simpa using this

theorem wp_region_pop {id : Nat} {S : World → Prop} {a : Act} {w : World} {ops l : List Oper} {last : Oper} (h1 : ops.dropLast = l) (h2 : ops.getLast? = some last) (hm : P.follows .mixedOrders = true) (hk : popOk l.toArray last = true) (hS : S w.drew)
    (h : S w.drew → wpAnyH P .any l.toArray (PopQ P last Q) S l.toArray.size (Array.replicate l.toArray.size false) a w.drew) : (Code.region id ops.toArray true).wp P Q a w := by
  refine wp_region_held_pop (ops' := l.toArray) (last := last) ?_ hm hk hS h
  obtain ⟨ys, rfl⟩ := List.getLast?_eq_some_iff.1 h2
  rw [List.dropLast_concat] at h1
  subst h1
  simp
end
end Go.Proofs.Ytcchcifcfcpjiaa.J
