/- What the printed small functions compute: look-ups in lists of texts, names, variables. No program's walk. -/
import Derived.Test.YtcchcifcfcpjiaaJV
import Derived.Test.YtcchcifcfcpjiaaPKx10
import Derived.Test.YtcchcifcfcpjiaaPJx6
import Derived.Test.YtcchcifcfcpjiaaPJx7
import Derived.Laws.Closers25b
import Derived.WideShapes
set_option linter.unusedVariables false
set_option linter.unusedSimpArgs false
namespace Go.Proofs.Ytcchcifcfcpjiaa.J
open Go.RowKit Go.Proofs.YtcchcifcfcpjiaaW.PrintWords Go.Proofs.YtcchcifcfcpjiaaW.PrintLast Go.Proofs.YtcchcifcfcpjiaaW.PrintMore Go.Proofs.Ytcchcifcfcpjiaa.PJ

theorem bytes_eq {a b : ByteArray} : a.toList = b.toList ↔ a = b := by
  rw [ByteArray.toList_eq, ByteArray.toList_eq]
  exact ⟨fun h => by
    obtain ⟨⟨l⟩⟩ := a
    obtain ⟨⟨l'⟩⟩ := b
    have h' : l = l' := h
    rw [h'], fun h => by rw [h]⟩
theorem rdOf_at (xs : List ByteArray) (i : Nat) (h : i < xs.length) : rdOf ByteArray.empty xs (i : Int) = xs[i] := by
  unfold rdOf
  rw [Int.toNat_natCast, List.getD_eq_getElem?_getD, List.getElem?_eq_getElem h]
  rfl
theorem rd118_at (xs : List S118) (i : Nat) (h : i < xs.length) : rd_T118 xs (i : Int) = xs[i] := by
  unfold rd_T118
  rw [Int.toNat_natCast, List.getD_eq_getElem?_getD, List.getElem?_eq_getElem h]
  rfl
theorem rd82_at (xs : List S82) (i : Nat) (h : i < xs.length) : rd_T82 xs (i : Int) = xs[i] := by
  unfold rd_T82
  rw [Int.toNat_natCast, List.getD_eq_getElem?_getD, List.getElem?_eq_getElem h]
  rfl
/-- The first place, or -1. -/
def ixI (vs : List ByteArray) (x : ByteArray) : Int := if x ∈ vs then ((ixN vs x : Nat) : Int) else -1
theorem ixI_mem {vs : List ByteArray} {x : ByteArray} (h : x ∈ vs) : ixI vs x = ((ixN vs x : Nat) : Int) := if_pos h
theorem ixN_drop : ∀ (vs : List ByteArray) (x : ByteArray) (i : Nat) (hi : i < vs.length), (∀ j (hj : j < i), vs[j]'(by omega) ≠ x) → vs[i] = x → ixN vs x = i
  | [], x, i, hi, _, _ => by simp at hi
  | v :: vs, x, 0, hi, _, h => by simp only [ixN]; rw [if_pos (by simpa using h)]
  | v :: vs, x, i + 1, hi, hb, h => by
    have h0 := hb 0 (by omega)
    simp only [List.getElem_cons_zero] at h0
    simp only [ixN, if_neg h0]
    rw [ixN_drop vs x i (by simpa using hi) (fun j hj => by have := hb (j + 1) (by omega); simpa using this) (by simpa using h)]

theorem idx_ev (vs : List ByteArray) (x : ByteArray) (hl : vs.length ≤ 1000000) : ∀ (m i : Nat), vs.length - i = m → i ≤ vs.length → (∀ j (hj : j < i) (h : j < vs.length), vs[j] ≠ x) → Ev (fun k => slices_Index_string_string.l0 k vs x (vs.length : Int) (i : Int)) (ixI vs x) := by
  intro m
  induction m with
  | zero =>
    intro i hm hi hno
    have hie : i = vs.length := by omega
    subst hie
    refine Ev.step (f := fun _ => some (-1)) (fun k => ?_) ?_
    · simp only [slices_Index_string_string.l0]
      rw [if_neg (by omega)]
    · have : x ∉ vs := fun h => by
        obtain ⟨j, hj, he⟩ := List.getElem_of_mem h
        exact hno j hj hj he
      rw [ixI, if_neg this]
      exact Ev.now _
  | succ m ih =>
    intro i hm hi hno
    have hil : i < vs.length := by omega
    by_cases he : vs[i] = x
    · refine Ev.step (f := fun _ => some (i : Int)) (fun k => ?_) ?_
      · simp only [slices_Index_string_string.l0]
        rw [if_pos (by omega), if_pos (by omega), if_pos (by omega), rdOf_at _ _ hil, if_pos (by rw [he])]
      · have hm2 : x ∈ vs := by rw [← he]; exact List.getElem_mem _
        rw [ixI_mem hm2, ixN_drop vs x i hil (fun j hj => hno j hj (by omega)) he]
        exact Ev.now _
    · refine Ev.step (f := fun k => slices_Index_string_string.l0 k vs x (vs.length : Int) ((i + 1 : Nat) : Int)) (fun k => ?_) ?_
      · simp only [slices_Index_string_string.l0]
        rw [if_pos (by omega), if_pos (by omega), if_pos (by omega), rdOf_at _ _ hil, if_neg (fun h => he (bytes_eq.1 h).symm), wrap_succ i vs.length hil (by omega)]
      · exact ih (i + 1) (by omega) (by omega) (fun j hj h => by
          rcases Nat.lt_or_ge j i with h1 | h1
          · exact hno j h1 h
          · have : j = i := by omega
            subst this
            exact he)
theorem idx_val (vs : List ByteArray) (x : ByteArray) (hl : vs.length ≤ 1000000) : Ev (fun k => slices_Index_string_string.f k vs x) (ixI vs x) := idx_ev vs x hl vs.length 0 (by omega) (by omega) (fun j hj => by omega)
theorem idx_rounds (vs : List ByteArray) (hl : vs.length ≤ 1000000) : ∀ x ∈ vs, ∃ q, slices_Index_string_string.f q vs x = some ((ixN vs x : Nat) : Int) := fun x hx => by
  have := (idx_val vs x hl).rounds
  rwa [ixI_mem hx] at this
theorem contains_val (vs : List ByteArray) (x : ByteArray) (hl : vs.length ≤ 1000000) : Ev (fun k => slices_Contains_string_string.f k vs x) (decide (x ∈ vs)) := by
  refine Ev.bind (idx_val vs x hl) ?_
  have : decide (ixI vs x ≥ 0) = decide (x ∈ vs) := by
    unfold ixI
    split <;> simp_all <;> omega
  rw [this]
  exact Ev.now _

theorem at_ev (vs : List ByteArray) (x : ByteArray) (hl : vs.length ≤ 1000000) : ∀ (m i : Nat), vs.length - i = m → i ≤ vs.length → (∀ j (hj : j < i) (h : j < vs.length), vs[j] ≠ x) → Ev (fun k => rhizomeref11_at.l0 k vs x (vs.length : Int) (i : Int)) (ixI vs x) := by
  intro m
  induction m with
  | zero =>
    intro i hm hi hno
    have hie : i = vs.length := by omega
    subst hie
    refine Ev.step (f := fun _ => some (-1)) (fun k => ?_) ?_
    · simp only [rhizomeref11_at.l0]
      rw [if_neg (by omega)]
    · have : x ∉ vs := fun h => by
        obtain ⟨j, hj, he⟩ := List.getElem_of_mem h
        exact hno j hj hj he
      rw [ixI, if_neg this]
      exact Ev.now _
  | succ m ih =>
    intro i hm hi hno
    have hil : i < vs.length := by omega
    by_cases he : vs[i] = x
    · refine Ev.step (f := fun _ => some (i : Int)) (fun k => ?_) ?_
      · simp only [rhizomeref11_at.l0]
        rw [if_pos (by omega), if_pos (by omega), if_pos (by omega), rdOf_at _ _ hil, if_pos (by rw [he])]
      · have hm2 : x ∈ vs := by rw [← he]; exact List.getElem_mem _
        rw [ixI_mem hm2, ixN_drop vs x i hil (fun j hj => hno j hj (by omega)) he]
        exact Ev.now _
    · refine Ev.step (f := fun k => rhizomeref11_at.l0 k vs x (vs.length : Int) ((i + 1 : Nat) : Int)) (fun k => ?_) ?_
      · simp only [rhizomeref11_at.l0]
        rw [if_pos (by omega), if_pos (by omega), if_pos (by omega), rdOf_at _ _ hil, if_neg (fun h => he (bytes_eq.1 h)), wrap_succ i vs.length hil (by omega)]
      · exact ih (i + 1) (by omega) (by omega) (fun j hj h => by
          rcases Nat.lt_or_ge j i with h1 | h1
          · exact hno j h1 h
          · have : j = i := by omega
            subst this
            exact he)
theorem at_val (vs : List ByteArray) (x : ByteArray) (hl : vs.length ≤ 1000000) : Ev (fun k => rhizomeref11_at.f k vs x) (ixI vs x) := at_ev vs x hl vs.length 0 (by omega) (by omega) (fun j hj => by omega)

theorem has_ev (vs : List ByteArray) (x : ByteArray) (hl : vs.length ≤ 1000000) : ∀ (m i : Nat), vs.length - i = m → i ≤ vs.length → (∀ j (hj : j < i) (h : j < vs.length), vs[j] ≠ x) → Ev (fun k => rhizomeref09_has.l0 k vs x (vs.length : Int) (i : Int)) (decide (x ∈ vs)) := by
  intro m
  induction m with
  | zero =>
    intro i hm hi hno
    have hie : i = vs.length := by omega
    subst hie
    refine Ev.step (f := fun _ => some false) (fun k => ?_) ?_
    · simp only [rhizomeref09_has.l0]
      rw [if_neg (by omega)]
    · have : x ∉ vs := fun h => by
        obtain ⟨j, hj, he⟩ := List.getElem_of_mem h
        exact hno j hj hj he
      rw [decide_eq_false this]
      exact Ev.now _
  | succ m ih =>
    intro i hm hi hno
    have hil : i < vs.length := by omega
    by_cases he : vs[i] = x
    · refine Ev.step (f := fun _ => some true) (fun k => ?_) ?_
      · simp only [rhizomeref09_has.l0]
        rw [if_pos (by omega), if_pos (by omega), if_pos (by omega), rdOf_at _ _ hil, if_pos (by rw [he])]
      · have hm2 : x ∈ vs := by rw [← he]; exact List.getElem_mem _
        rw [decide_eq_true hm2]
        exact Ev.now _
    · refine Ev.step (f := fun k => rhizomeref09_has.l0 k vs x (vs.length : Int) ((i + 1 : Nat) : Int)) (fun k => ?_) ?_
      · simp only [rhizomeref09_has.l0]
        rw [if_pos (by omega), if_pos (by omega), if_pos (by omega), rdOf_at _ _ hil, if_neg (fun h => he (bytes_eq.1 h)), wrap_succ i vs.length hil (by omega)]
      · exact ih (i + 1) (by omega) (by omega) (fun j hj h => by
          rcases Nat.lt_or_ge j i with h1 | h1
          · exact hno j h1 h
          · have : j = i := by omega
            subst this
            exact he)
theorem has_val (vs : List ByteArray) (x : ByteArray) (hl : vs.length ≤ 1000000) : Ev (fun k => rhizomeref09_has.f k vs x) (decide (x ∈ vs)) := has_ev vs x hl vs.length 0 (by omega) (by omega) (fun j hj => by omega)

theorem wrap_succ2 (i n : Nat) (h : i < n) (hn : n ≤ 9223372036854775807) : wrap64 ((i : Int) + 1) = ((i + 1 : Nat) : Int) := by
  unfold wrap64; rw [Int.natCast_add]; show _ = (i : Int) + 1; omega

/-- The document's names are the code's. -/
theorem name_ev (s : ByteArray) (hs : s.size ≤ 9223372036854775807) : ∀ (m i : Nat), s.size - i = m → i ≤ s.size → (∀ j (hj : j < i) (h : j < s.size), inName (s[j]'h) = true) → Ev (fun k => rhizomeref07_Name.l0 k s (i : Int)) (nameB s) := by
  intro m
  induction m with
  | zero =>
    intro i hm hi hyes
    have hie : i = s.size := by omega
    subst hie
    have hall : s.data.toList.all inName = true := by
      rw [List.all_eq_true]
      intro b hb
      obtain ⟨j, hj, rfl⟩ := List.getElem_of_mem hb
      have hj2 : j < s.size := by simpa using hj
      exact hyes j hj2 hj2
    refine Ev.step (f := fun _ => some (nameB s)) (fun k => ?_) (Ev.now _)
    simp only [rhizomeref07_Name.l0]
    rw [if_neg (by omega)]
    unfold nameB
    rw [hall]
    by_cases h1 : 1 ≤ s.size
    · rw [if_pos (by omega), decide_eq_true h1, Bool.true_and, Bool.and_true]
      congr 1
      rw [Bool.eq_iff_iff]
      simp only [decide_eq_true_eq]
      omega
    · rw [if_neg (by omega), decide_eq_false h1]
      rfl
  | succ m ih =>
    intro i hm hi hyes
    have hil : i < s.size := by omega
    have hb : bt s (i : Int) = ((s[i]'hil).toNat : Int) := by
      have := bt_at s (i : Int) (by simpa using hil)
      rw [← this]
      rfl
    by_cases hin : inName (s[i]'hil) = true
    · have hr : 97 ≤ (s[i]'hil).toNat ∧ (s[i]'hil).toNat ≤ 122 := by simpa [inName] using hin
      refine Ev.step (f := fun k => rhizomeref07_Name.l0 k s ((i + 1 : Nat) : Int)) (fun k => ?_) ?_
      · simp only [rhizomeref07_Name.l0]
        rw [if_pos (by omega), if_pos (by omega), hb, if_neg (by omega), if_neg (by omega), wrap_succ2 i s.size hil (by omega)]
      · exact ih (i + 1) (by omega) (by omega) (fun j hj h => by
          rcases Nat.lt_or_ge j i with h1 | h1
          · exact hyes j h1 h
          · have : j = i := by omega
            subst this
            exact hin)
    · have hr : ¬ (97 ≤ (s[i]'hil).toNat ∧ (s[i]'hil).toNat ≤ 122) := by simpa [inName] using hin
      have hf : nameB s = false := by
        unfold nameB
        have : s.data.toList.all inName = false := by
          rw [List.all_eq_false]
          refine ⟨s[i], ?_, hin⟩
          have : s[i] = s.data.toList[i]'(by simpa using hil) := by simp; rfl
          rw [this]
          exact List.getElem_mem _
        rw [this]
        simp
      rw [hf]
      refine Ev.step (f := fun _ => some false) (fun k => ?_) (Ev.now _)
      simp only [rhizomeref07_Name.l0]
      rw [if_pos (by omega), if_pos (by omega), hb]
      by_cases h1 : ((s[i]'hil).toNat : Int) < 97
      · rw [if_pos h1]
      · rw [if_neg h1, if_pos (by omega)]
/-- A text as long as Go's memory lets it be: where it is longer than a million it is no name, and the loop's first part says so or it ends. -/
theorem name_val (s : ByteArray) (hs : s.size ≤ 9223372036854775807) : Ev (fun k => rhizomeref07_Name.f k s) (nameB s) := name_ev s hs s.size 0 (by omega) (by omega) (fun j hj => by omega)
end Go.Proofs.Ytcchcifcfcpjiaa.J
