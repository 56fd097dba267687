/- query.name (own work, in the place of what is not printed). -/
import Derived.Test.YtcchcifcfcpjiaaPJx0
import Derived.Test.YtcchcifcfcpjiaaShelfB
import Derived.Laws.RangeAny
import Derived.Shelf.GgClosure.StringsRunes
set_option linter.unusedVariables false
set_option linter.unusedSimpArgs false
namespace Go.Proofs.Ytcchcifcfcpjiaa.PJ
open Go.RowKit Go.Proofs.YtcchcifcfcpjiaaW.PrintWords Go.Proofs.YtcchcifcfcpjiaaW.PrintLast Go.Proofs.YtcchcifcfcpjiaaW.PrintMore

def badC (x : Nat) : Bool := decide (x < 97) || decide (122 < x)

set_option maxRecDepth 100000 in
theorem badC_calls (W : World) (x : Nat) : Calls Try.prog 137 #[.int .i32 x] W fun e w' => e = .returned (.bool (badC x)) ∧ ∃ q, w' = W.drewN q := by
  by_cases h1 : x < 97
  · have h2 : (x : Int) < 97 := by omega
    have hb : badC x = true := by simp [badC, h1]
    go_enter Try.func137, Try.ntmps137
    go_wp2
    go_ret
    exact ⟨(by first | rfl | (rw [hb]; rfl)), 0, rfl⟩
  · have h2 : ¬ (x : Int) < 97 := by omega
    by_cases h3 : 122 < x
    · have h4 : (x : Int) > 122 := by omega
      have hb : badC x = true := by simp [badC, h3]
      go_enter Try.func137, Try.ntmps137
      go_wp2
      go_ret
      exact ⟨(by first | rfl | (rw [hb]; rfl)), 0, rfl⟩
    · have h4 : ¬ (x : Int) > 122 := by omega
      have hb : badC x = false := by simp [badC, h1, h3]
      go_enter Try.func137, Try.ntmps137
      go_wp2
      go_ret
      exact ⟨(by first | rfl | (rw [hb]; rfl)), 0, rfl⟩

def inName (b : UInt8) : Bool := decide (97 ≤ b.toNat) && decide (b.toNat ≤ 122)
def nameB (s : ByteArray) : Bool := decide (1 ≤ s.size) && (decide (s.size ≤ 16) && s.data.toList.all inName)
theorem badC_at {s : ByteArray} {pos : Nat} (h : pos < s.size) : (badC (Utf8.decode s pos).1 = true ↔ inName (s[pos]'h) = false) ∧ (inName (s[pos]'h) = true → (Utf8.decode s pos).2 = 1) := by
  unfold badC inName
  by_cases ha : (s[pos]'h).toNat < 128
  · rw [decode_ascii s pos h ha]
    dsimp only
    simp only [Bool.or_eq_true, decide_eq_true_eq, Bool.and_eq_false_iff, decide_eq_false_iff_not]
    refine ⟨?_, fun _ => trivial⟩
    omega
  · have := decode_high s pos h (by omega)
    simp only [Bool.or_eq_true, decide_eq_true_eq, Bool.and_eq_false_iff, decide_eq_false_iff_not, Bool.and_eq_true]
    omega
theorem idx_bad (s : ByteArray) : ∀ (f pos : Nat), s.size - pos ≤ f → (Lib.idxFuncFrom badC true s f pos = -1 ↔ ∀ i (h : i < s.size), pos ≤ i → inName (s[i]'h) = true) := by
  intro f
  induction f with
  | zero =>
    intro pos hf
    simp only [Lib.idxFuncFrom, true_iff]
    intro i h hi
    omega
  | succ f ih =>
    intro pos hf
    unfold Lib.idxFuncFrom
    by_cases hp : pos < s.size
    · rw [if_pos hp]
      obtain ⟨h1, h2⟩ := badC_at hp
      by_cases hb : badC (Utf8.decode s pos).1 = true
      · rw [if_pos hb]
        have h3 := h1.1 hb
        constructor
        · intro h; omega
        · intro h
          have := h pos hp (Nat.le_refl _)
          rw [h3] at this
          cases this
      · rw [if_neg hb]
        have hn : inName (s[pos]'hp) = true := by
          cases hc : inName (s[pos]'hp) with
          | true => rfl
          | false => exact absurd (h1.2 hc) hb
        rw [h2 hn, ih (pos + 1) (by omega)]
        constructor
        · intro h i hi hpi
          by_cases he : i = pos
          · subst he; exact hn
          · exact h i hi (by omega)
        · intro h i hi hpi
          exact h i hi (by omega)
    · rw [if_neg hp]
      simp only [true_iff]
      intro i h hi
      omega
theorem idx_all (s : ByteArray) : (!decide (0 ≤ Lib.idxFunc badC true s)) = s.data.toList.all inName := by
  have h1 := idx_bad s s.size 0 (by omega)
  have h2 := Lib.idxFuncFrom_range badC true s s.size 0
  unfold Lib.idxFunc
  rw [Bool.eq_iff_iff]
  simp only [Bool.not_eq_true', decide_eq_false_iff_not, List.all_eq_true]
  constructor
  · intro h x hx
    have h3 := h1.1 (by omega)
    obtain ⟨i, hi, rfl⟩ := List.getElem_of_mem hx
    exact h3 i (by simpa using hi) (Nat.zero_le _)
  · intro h
    have := h1.2 (fun i hi _ => h _ (by
      have : s[i] = s.data.toList[i]'(by simpa using hi) := by simp; rfl
      rw [this]
      exact List.getElem_mem _))
    omega

/-! ### query_name: function 121 -/
def query_name.f (a0 : ByteArray) : Option (Bool) := some (nameB a0)
set_option maxHeartbeats 8000000 in
set_option maxRecDepth 100000 in
theorem query_name.calls (a0 : ByteArray) (r : Bool) (w : World) (h : query_name.f a0 = some r) :
    Calls Try.prog 121 #[.string a0] w fun e w' => e = .returned (.bool r) ∧ Below w.heap.size w w' := by
  obtain rfl := Option.some.inj h
  clear h
  by_cases h1 : 1 ≤ a0.size
  · have h2 : (a0.size : Int) ≥ 1 := by omega
    by_cases h3 : a0.size ≤ 16
    · have h4 : (a0.size : Int) ≤ 16 := by omega
      have hn : nameB a0 = !decide (0 ≤ Lib.idxFunc badC true a0) := by simp [nameB, h1, h3, idx_all]
      have hc := Any.strings_ContainsFunc_runes Try.contF 137 #[] (fun args w => rfl) badC a0
      change ∀ w, _ → Calls Try.prog 109 _ _ _ at hc
      have HC := Aside0.mk hc
      clear hc
      rw [hn]
      generalize decide (0 ≤ Lib.idxFunc badC true a0) = d at *
      clear hn
      go_enter Try.func121, Try.ntmps121
      go_wp2_with (go_at_call 109; refine (HC.out _ ?_).mono ?_; (exact fun W x _ _ => badC_calls W x); rintro e w' ⟨rfl, hb⟩)
      go_ret
      exact ⟨rfl, hb⟩
    · have h4 : ¬ (a0.size : Int) ≤ 16 := by omega
      have hn : nameB a0 = false := by simp [nameB, h3]
      rw [hn]
      go_enter Try.func121, Try.ntmps121
      go_wp2
      go_ret
      exact ⟨rfl, Below.refl _ _⟩
  · have h2 : ¬ (a0.size : Int) ≥ 1 := by omega
    have hn : nameB a0 = false := by simp [nameB, h1]
    rw [hn]
    go_enter Try.func121, Try.ntmps121
    go_wp2
    go_ret
    exact ⟨rfl, Below.refl _ _⟩
end Go.Proofs.Ytcchcifcfcpjiaa.PJ
