/- join.extend, all its ways. -/
import Derived.Test.YtcchcifcfcpjiaaJX1
import Derived.Test.YtcchcifcfcpjiaaJX2
import Derived.Test.YtcchcifcfcpjiaaJX3
set_option linter.unusedVariables false
set_option linter.unusedSimpArgs false
namespace Go.Proofs.Ytcchcifcfcpjiaa.J
open Go.RowKit Go.Proofs.YtcchcifcfcpjiaaW.PrintWords Go.Proofs.YtcchcifcfcpjiaaW.PrintLast Go.Proofs.YtcchcifcfcpjiaaW.PrintMore Go.Proofs.Ytcchcifcfcpjiaa.PJ

theorem extM_none (r : List Int) (f t : Nat) : extM [] r f t = [] := by
  unfold extM froms
  split
  · split <;> simp
  · simp

theorem extend_calls (w1 w : World) {B : Nat} {acc : List (List Int)} {ok : Nat → Prop} {x v : Value} {r : List Int} {ps : List (Int × Int)} {f t : Nat} (hbw : Below w1.heap.size w1 w)
    (hx : XAt w1 x ps) (hr : TupAt w1 ok v r) (hA : AccAt w w1.heap.size B acc) (hl : acc.length ≤ 3000) (ht : t ≤ r.length + 1) (hrl : r.length ≤ 100000) (hpl : ps.length ≤ 100000) :
    Calls Try.prog 65 #[x, v, .int .i64 f, .int .i64 t, .func (.func 64) #[] #[.pointer (some ⟨B, 0, none⟩)]] w (ExtPost w1.heap.size B w1 acc (extM ps r f t)) := by
  have hsz := hbw.size
  rcases hx with ⟨rfl, rfl⟩ | ⟨p, rfl, hx⟩
  · refine (extend_nil w v f t _ hA hl).mono ?_
    rintro e w' ⟨h1, h2, h3⟩
    rw [extM_none]
    exact ⟨h1, h2, hbw.trans h3⟩
  · by_cases hf : f < r.length
    · by_cases ht2 : t < r.length
      · refine (extend_both w (hx.below hbw) (hr.below hbw) hA hl hf ht2 (by omega)).mono ?_
        rintro e w' ⟨h1, h2, h3⟩
        exact ⟨h1, h2, hbw.trans h3⟩
      · exact extend_from w1 w hbw hsz hx hr hA hl hf ht2 hrl hpl
    · exact extend_all w1 w hbw hsz hx hr hA hl hf ht hrl hpl
end Go.Proofs.Ytcchcifcfcpjiaa.J
