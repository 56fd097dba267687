/- span.bad: the walk. -/
import Derived.Test.YtcchcifcfcpjiaaPKq
set_option linter.unusedVariables false
set_option linter.unusedSimpArgs false
namespace Go.Proofs.Ytcchcifcfcpjiaa.J
open Go.RowKit Go.Proofs.YtcchcifcfcpjiaaW.PrintWords Go.Proofs.YtcchcifcfcpjiaaW.PrintLast Go.Proofs.YtcchcifcfcpjiaaW.PrintMore Go.Proofs.Ytcchcifcfcpjiaa.PJ

set_option maxRecDepth 100000 in
theorem badC2_calls (W : World) (x : Nat) : Calls Try.prog 110 #[.int .i32 x] W fun e w' => e = .returned (.bool (badC x)) ∧ ∃ q, w' = W.drewN q := by
  by_cases h1 : x < 97
  · have h2 : (x : Int) < 97 := by omega
    have hb : badC x = true := by simp [badC, h1]
    go_enter Try.func110, Try.ntmps110
    go_wp2
    go_ret
    exact ⟨(by first | rfl | (rw [hb]; rfl)), 0, rfl⟩
  · have h2 : ¬ (x : Int) < 97 := by omega
    by_cases h3 : 122 < x
    · have h4 : (x : Int) > 122 := by omega
      have hb : badC x = true := by simp [badC, h3]
      go_enter Try.func110, Try.ntmps110
      go_wp2
      go_ret
      exact ⟨(by first | rfl | (rw [hb]; rfl)), 0, rfl⟩
    · have h4 : ¬ (x : Int) > 122 := by omega
      have hb : badC x = false := by simp [badC, h1, h3]
      go_enter Try.func110, Try.ntmps110
      go_wp2
      go_ret
      exact ⟨(by first | rfl | (rw [hb]; rfl)), 0, rfl⟩

set_option maxHeartbeats 8000000 in
set_option maxRecDepth 100000 in
/-- A name is not bad. -/
theorem spanBad_calls (s : ByteArray) (w : World) (hs : nameB s = true) : Calls Try.prog 81 #[.string s] w fun e w' => e = .returned (.bool false) ∧ Below w.heap.size w w' := by
  have h1 : 1 ≤ s.size ∧ s.size ≤ 16 := by
    unfold nameB at hs
    simp only [Bool.and_eq_true, decide_eq_true_eq] at hs
    exact ⟨hs.1, hs.2.1⟩
  have h2 : ¬ (s.size : Int) < 1 := by omega
  have h4 : ¬ (s.size : Int) > 16 := by omega
  have hn : decide (0 ≤ Lib.idxFunc badC true s) = false := by
    have : nameB s = !decide (0 ≤ Lib.idxFunc badC true s) := by simp [nameB, h1.1, h1.2, idx_all]
    rw [hs] at this
    cases h : decide (0 ≤ Lib.idxFunc badC true s) with
    | false => rfl
    | true => rw [h] at this; cases this
  have hc := Any.strings_ContainsFunc_runes Try.contF 110 #[] (fun args w => rfl) badC s
  change ∀ w, _ → Calls Try.prog 109 _ _ _ at hc
  rw [hn] at hc
  have HC := Aside0.mk hc
  clear hc hn
  go_enter Try.func81, Try.ntmps81
  go_wp2_with (go_at_call 109; refine (HC.out _ ?_).mono ?_; (exact fun W x _ _ => badC2_calls W x); rintro e w' ⟨rfl, hb⟩)
  go_ret
  exact ⟨rfl, hb⟩
end Go.Proofs.Ytcchcifcfcpjiaa.J
